/- Texts joined: Rk3, Han, Rf6, Kr1, Kr2, Kr3, SxIter, KyJ, CoJ, Kr4, Rk4, Kr5, Rk5, Rk6, Rk7, Rk9, Rka, Kr6, Kr7, Kr8, Kr9, Ks1, Ks2, KsL, Tl11, Ks3, Ks4, Ks5, SxClr, Ks6, Ks7, Ks8, Ks9, Ka1, Rk8, RHx, Rkb, Key2, Rl2, Rm7, Bl2, Rl4, KyI, ColI, SrU, SrU2, FmU, Dec, Rl5, Rl7, SxTriL, SxGo, Rm3, Rm8, Rv1, Tk3, Tkb, RgL, Tkc, Rv3, Ten, Ten2, UsE, CrP, UsG, TnR, UsR, Rl6, Rm1, Rm4, Rv4, Rv5, Rw1, Rv2, Rm2, JnQ. -/
import Derived.Test.YtloeaiafphkjnaaGreatDoorMRollLoads4
import Derived.Test.YtloeaiafphkjnaaGreatDoorMRollLoads2
import Derived.Maps.RangeRun
import Derived.Test.YtloeaiafphkjnaaGreatDoorMRollLoads3
import Derived.Below
set_option linter.unusedVariables false
set_option linter.unusedSimpArgs false
namespace Go.Proofs.YtloeaiafphkjnaaGreatDoor.Sx
open Go
attribute [local irreducible] Calls
def digB:List UInt8:=[48,49,50,51,52,53,54,55,56,57,97,98,99,100,101,102]
theorem z_sP {n:Nat} {c x:UInt8} (h:digB[n]?=some x):x=c↔digA c=some n:=by
 have key: ∀n:_root_.Fin 16,∀m:_root_.Fin 256,(decide (digB[n.1]?=some (UInt8.ofNat m.1))=decide (digA (UInt8.ofNat m.1)=some n.1)):=by decide+kernel
 have hn:n<16:=(List.getElem?_eq_some_iff.1 h).1
 have h2:=key ⟨n,hn⟩ ⟨c.toNat,c.toNat_lt⟩
 simp only [UInt8.ofNat_toNat,decide_eq_decide] at h2
 rw [h] at h2
 exact ⟨fun q=>h2.1 (by rw [q]),fun q=>Option.some.inj (h2.2 q)⟩
def digTo (c:UInt8) (n:Nat):Int:=match digA c with
 | some d=>if d<n then (d:Int) else -1
 | none=> -1
theorem z_u7 (c:UInt8):digTo c 0= -1:=by
 unfold digTo
 split
 ·rw [if_neg (Nat.not_lt_zero _)]
 ·rfl
theorem z_rH {c:UInt8} {n:Nat} (h:digA c=some n):digTo c (n+1)=(n:Int):=by
 unfold digTo
 rw [h]
 simp only
 rw [if_pos (Nat.lt_succ_self _)]
theorem z_tr {c:UInt8} {n:Nat} (h:digA c≠some n):digTo c (n+1)=digTo c n:=by
 unfold digTo
 cases hd:digA c with
 | none=>rfl
 | some d=>
  simp only
  have hne:d≠n:=fun q=>h (by rw [hd,q])
  by_cases q:d<n
  ·rw [if_pos (by omega),if_pos q]
  ·rw [if_neg (by omega),if_neg q]
theorem z_tw (c:UInt8):digTo c 16=digV c:=by
 unfold digTo digV
 cases hd:digA c with
 | none=>rfl
 | some d=>simp only;rw [if_pos (z_jq hd)]
theorem z_qb {s:List UInt8} {i:Nat} {x:UInt8} (h2:s.length%2=0) (hx:s[i]?=some x) (hd:digA x=none):unhexA s=none:=by
 have hi:=(List.getElem?_eq_some_iff.1 hx).1
 by_cases he:i%2=0
 ·obtain ⟨y,hy, -⟩:=at_lt (show i+1<s.length by omega)
  have e:s=s.take i++x::y::s.drop (i+2):=by
   have h1:=List.drop_eq_getElem_cons hi
   have h3:=List.drop_eq_getElem_cons (show i+1<s.length by omega)
   rw [(List.getElem?_eq_some_iff.1 hx).2] at h1
   rw [(List.getElem?_eq_some_iff.1 hy).2] at h3
   rw [<-h3,<-h1,List.take_append_drop]
  rw [e]
  exact z_g5 x y _ _ (by rw [List.length_take];omega) (.inl hd)
 ·obtain ⟨y,hy, -⟩:=at_lt (show i - 1<s.length by omega)
  have e:s=s.take (i - 1)++y::x::s.drop (i+1):=by
   have h1:=List.drop_eq_getElem_cons hi
   have h3:=List.drop_eq_getElem_cons (show i - 1<s.length by omega)
   rw [(List.getElem?_eq_some_iff.1 hx).2] at h1
   rw [(List.getElem?_eq_some_iff.1 hy).2,show i - 1+1=i by omega] at h3
   rw [<-h1,<-h3,List.take_append_drop]
  rw [e]
  exact z_g5 y x _ _ (by rw [List.length_take];omega) (.inr hd)
theorem z_p9 {s o:List UInt8} {i v w:Nat} {x y:UInt8} (h:unhexA (s.take i)=some o) (he:i%2=0) (hx:s[i]?=some x) (hy:s[i+1]?=some y) (hv:digA x=some v) (hw:digA y=some w):unhexA (s.take (i+2))=some (o++[u8n (v*16+w)]):=by
 have hi:=(List.getElem?_eq_some_iff.1 hx).1
 rw [List.take_add_one,List.take_add_one,hx,hy,List.append_assoc,z_jn _ _ (by rw [List.length_take];omega),h]
 show (match (some o),unhexA [x,y] with | some a,some b=>some (a++b) | _,_=>none)=_
 have e:unhexA [x,y]=some [u8n (v*16+w)]:=by simp [unhexA,hv,hw]
 rw [e]
theorem z_uq (a b:Nat):u8n a+u8n b=u8n (a+b):=by
 apply UInt8.toNat_inj.1
 unfold u8n
 rw [UInt8.toNat_add,UInt8.toNat_ofNat',UInt8.toNat_ofNat',UInt8.toNat_ofNat']
 omega
theorem z_pn (w:World) (s:List UInt8) (hL:s.length<=1000000):Con Tryz.prog z_da #[.string (mkS s)] w [] (decOutP (unhexA s)):=by
 have g:=z_fx w (Un [])
 refine z_ad (cx:=z_cD w (Un [])) g z_hl rfl rfl (β:=Va.z) [.c (.v (.string (mkS s)))] 0 [] [] rfl rfl (Sat.start rfl) ?_
 have hml:=z_ag
 have hsz:=z_hG s
 refine ⟨by first | decide | omega,?_⟩
 refine ⟨(((mkS s).size%2:Nat):Int),Int.ofNat_tmod _ _,?_⟩
 refine BIf.not (BIf.dec (fun h2=>?_) (fun h2=>?_))
 ·have h20:(((mkS s).size%2:Nat):Int)=0:=h2
  refine z_ai (ι:=Nat×Option Addr×Nat×List UInt8) 0 (fun j=>[(0,.c (.v (.string (mkS s)))),(4,.c (.v (.slice j.2.1 j.2.2.2.length j.2.2.1))),(5,.c (.v (.int .i64 (j.1:Int))))]) (fun _=>[]) (fun j=>[browF z_ab j.2.1 j.2.2.2 j.2.2.1])
   (fun j=>j.1<=s.length/\(j.1%2=0->unhexA (s.take j.1)=some j.2.2.2)/\(j.1%2=1-> ∃o x v,s[j.1 - 1]?=some x/\digA x=some v/\unhexA (s.take (j.1 - 1))=some o/\j.2.2.2=o++[u8n (v*16)])/\j.2.2.2.length<=j.1) (fun j=>s.length - j.1) (0,none,0,[]) ⟨Nat.zero_le _,fun _=>rfl,(fun h=>by cases h),Nat.le_refl _⟩ (Ent.mk' ⟨rfl,rfl,rfl,trivial⟩ rfl (fun β w' hs=>hs.nilRow z_ab 1)) g ?_
  rintro ⟨i,A,c,out⟩ ⟨hi,he,ho,hol⟩
  simp only at hi he ho hol
  refine BIf.dec (fun hlt=>?_) (fun hge=>?_)
  ·have hlt0:(i:Int)<((mkS s).size:Int):=hlt
   obtain ⟨x,hx, -⟩:=at_lt (show i<s.length by omega)
   refine z_pd (p:=0<out.length-> ∃b,A=some ⟨b,0,none⟩) (fun β w' hs h=>?_) ?_
   ·have hp:w'.ownsRow 0 z_ab 1 (.slice A out.length c) out.length (out.map byte):=hs.get 0 rfl
    rcases hp.2 with ⟨_,q⟩ | ⟨b,cap,cur,hv,_⟩
    ·omega
    ·injection hv with q1 q2 q3
     exact ⟨b,q1⟩
   intro hAb
   refine z_ai (ι:=Nat) 0 (fun j=>[(0,.c (.v (.string (mkS s)))),(4,.c (.v (.slice A out.length c))),(5,.c (.v (.int .i64 (i:Int)))),(6,.c (.v (.int .i64 (digTo x j)))),(7,.c (.v (.int .i64 (j:Int))))]) (fun _=>[]) (fun j=>[browF z_ab A out c])
    (fun j=>j<=16) (fun j=>16 - j) (0:Nat) (Nat.zero_le _) (Ent.mk' ⟨rfl,rfl,rfl,by rw [z_u7];rfl,rfl,trivial⟩ rfl (fun β w' hs=>hs)) g ?_
   intro n hn
   refine BIf.dec (fun hlt2=>?_) (fun hge2=>?_)
   ·have hlt20:(n:Int)<16:=hlt2
    obtain ⟨d,hd, -⟩:=at_lt (show n<digB.length by show n<16;omega)
    have hdi:=z_sP (c:=x) hd
    refine z_ak g z_fo (by kernel_rfl) [] [] (Sub.of (List.Sublist.refl _) (List.nil_sublist _)) ?_
    refine ⟨n,d,rfl,hd,?_⟩
    refine ⟨i,x,rfl,hx,?_⟩
    refine BIf.dec (fun heq=>?_) (fun hne=>?_)
    ·have heq0:d=x:=UInt8.toNat_inj.1 (Int.ofNat_inj.1 heq)
     refine ⟨((n+1:Nat):Int),by rw [wrap_i64 (by omega) (by omega)];rfl,?_⟩
     refine ⟨n+1,by omega,by omega,Ent.mk' ⟨rfl,rfl,rfl,by rw [z_rH (hdi.1 heq0)];rfl,rfl,trivial⟩ rfl (fun β w' hs=>hs)⟩
    ·have hne0:d≠x:=fun q=>hne (by rw [q])
     refine ⟨((n+1:Nat):Int),by rw [wrap_i64 (by omega) (by omega)];rfl,?_⟩
     refine ⟨n+1,by omega,by omega,Ent.mk' ⟨rfl,rfl,rfl,by rw [z_tr (fun q=>hne0 (hdi.2 q))];rfl,rfl,trivial⟩ rfl (fun β w' hs=>hs)⟩
   ·have hge20: ¬(n:Int)<16:=hge2
    obtain rfl:n=16:=by omega
    rw [z_tw]
    cases hdx:digA x with
    | none=>
     have hv:digV x= -1:=by unfold digV;rw [hdx]
     rw [hv]
     intro β w' hs
     exact (hs.nilRow z_ab 1).fin [0] ⟨none,[],0,5,rfl,.inr ⟨by decide,z_qb (by omega) hx hdx⟩,Nat.le_refl _,rfl⟩
    | some v=>
     have hv:digV x=(v:Int):=by unfold digV;rw [hdx]
     have hv16:=z_jq hdx
     rw [hv]
     refine ⟨by first | decide | omega,?_⟩
     refine ⟨((i%2:Nat):Int),Int.ofNat_tmod _ _,?_⟩
     refine BIf.dec (fun hev=>?_) (fun hod=>?_)
     ·have hev0:((i%2:Nat):Int)=0:=hev
      refine ⟨(((16*v):Nat):Int),by rw [wrap_i64 (by omega) (by omega)];rfl,?_⟩
      refine ⟨((u8n (v*16)).toNat:Int),by rw [show 16*v=v*16 by omega];exact z_fy _,?_⟩
      intro b1
      obtain ⟨out2,hout2⟩: ∃out2,out2=out++[u8n (v*16)]:=⟨_,rfl⟩
      have hl2:out.length+1=out2.length:=by rw [hout2,List.length_append];rfl
      refine ⟨1,out.length,out2.length,out.map byte,[u8n (v*16)].map byte,out2.map byte,rfl,fun β w' hs=>z_am (hs.get 0 rfl),z_aq _,hl2,by rw [hout2,List.map_append],by rw [hml];omega,by show out2.length*1<=_;omega,?_⟩
      intro A2 c2 r1 r2 r3
      refine ⟨((i+1:Nat):Int),by rw [wrap_i64 (by omega) (by omega)];rfl,?_⟩
      exact ⟨(i+1,A2,c2,out2),⟨by show i+1<=_;omega,fun h=>absurd (show (i+1)%2=0 from h) (by omega),fun _=>⟨out,x,v,hx,hdx,he (by omega),hout2⟩,by show out2.length<=i+1;omega⟩,by show s.length - (i+1)<s.length - i;omega,Ent.mk' ⟨rfl,rfl,rfl,trivial⟩ rfl (fun β w' hs=>hs.perm [1])⟩
     ·have hod0: ¬((i%2:Nat):Int)=0:=hod
      obtain ⟨o,x0,v0,hx0,hdx0,hun,hoe⟩:=ho (by omega)
      have hole:out.length=o.length+1:=by rw [hoe,List.length_append];rfl
      obtain ⟨bA,hbA⟩:=hAb (by omega)
      subst hbA
      refine ⟨_,wrap_i64 (by omega) (by omega),?_⟩
      refine ⟨_,o.length,rfl,by omega,by omega,?_⟩
      refine ⟨byte (u8n (v0*16)),fun β w' hs=>Rd.cell1 (z_am (show (browF z_ab (some ⟨bA,0,none⟩) out c).p w' from hs.get 0 rfl)) (by rw [hoe,List.map_append,List.getElem?_append_right (by simp)];simp),?_⟩
      refine ⟨((v:Nat):Int),by rw [IntKind.wrap_u8];omega,?_⟩
      refine ⟨((u8n (v0*16+v)).toNat:Int),by
       have h1:=UInt8.toNat_add (u8n (v0*16)) (u8n v)
       rw [z_uq] at h1
       have h2:(u8n v).toNat=v:=by unfold u8n;rw [UInt8.toNat_ofNat'];omega
       rw [IntKind.wrap_u8,h1,h2]
       omega,?_⟩
      refine ⟨_,o.length,rfl,by omega,by omega,?_⟩
      refine ⟨_,fun β w' hs=>Sat.rowSet hs (j:=0) (us:=[byte (u8n (v0*16+v))]) rfl (by show o.length*1+1<=out.length*1;omega) (fun u hu=>by obtain rfl:=List.mem_singleton.1 hu;rfl),?_⟩
      refine ⟨((i+1:Nat):Int),by rw [wrap_i64 (by omega) (by omega)];rfl,?_⟩
      obtain ⟨out2,hout2⟩: ∃out2,out2=o++[u8n (v0*16+v)]:=⟨_,rfl⟩
      have hl2:out2.length=out.length:=by rw [hout2,List.length_append,hole];rfl
      have hput:putAll (out.map byte) (o.length*1) [byte (u8n (v0*16+v))]=out2.map byte:=by
       show putAt (out.map byte) (o.length*1) _=_
       rw [z_aC,Nat.mul_one,hoe,hout2,List.map_append,List.map_append,List.set_append_right _ _ (by simp)]
       simp
      have hi1:i - 1+2=i+1:=by omega
      refine ⟨(i+1,some ⟨bA,0,none⟩,c,out2),⟨by show i+1<=_;omega,fun _=>?_,fun h=>absurd (show (i+1)%2=1 from h) (by omega),by show out2.length<=i+1;omega⟩,by show s.length - (i+1)<s.length - i;omega,?_⟩
      ·show unhexA (s.take (i+1))=some out2
       rw [hout2,<-hi1]
       exact z_p9 hun (by omega) hx0 (by rw [show i - 1+1=i by omega];exact hx) hdx0 hdx
      ·simp only [hl2]
       refine Ent.mk' ⟨rfl,rfl,rfl,trivial⟩ rfl (fun β w' hs=>?_)
       show Sat _ _ _ _ [rowF z_ab 1 (.slice (some ⟨bA,0,none⟩) out2.length c) out2.length (out2.map byte)] _
       rw [<-hput,hl2]
       exact hs
  ·have hge0: ¬(i:Int)<((mkS s).size:Int):=hge
   obtain rfl:i=s.length:=by omega
   intro β w' hs
   refine hs.fin [0] ⟨A,out,c,0,rfl,.inl ⟨rfl,?_⟩,z_gZ (hs.get 0 rfl),rfl⟩
   have h:=he (by omega)
   rwa [List.take_length] at h
 ·have h20: ¬(((mkS s).size%2:Nat):Int)=0:=h2
  intro β w' hs
  exact (hs.nilRow z_ab 1).fin [0] ⟨none,[],0,2,rfl,.inr ⟨by decide,z_js s (by omega)⟩,Nat.le_refl _,rfl⟩
theorem z_ub (w:World) (n:Nat) (hn:n<=3):Pu Tryz.prog z_kW #[.int .u64 1,.int .u64 n] w (.tuple #[.int .u64 0,.int .u64 n]):=by
 refine pu_of (Calls.mono (Tryz.bits_Mul 1 n (by decide) (by omega) w) ?_)
 rintro e w' ⟨rfl,rfl⟩
 refine ⟨_,rfl,?_,Chg.refl _ _⟩
 have:n=0\/n=1\/n=2\/n=3:=by omega
 rcases this with rfl | rfl | rfl | rfl<;>rfl
theorem hpE_c (w:World) (s:ByteArray) (b:Bool) (h:_root_.Go.Lib.hasPrefix s.data.toList [61]=b):Pu Tryz.prog z_ia #[.string s,.string ⟨#[61]⟩] w (.bool b):=by
 refine pu_of (Calls.mono (Tryz.strings_HasPrefix s ⟨#[61]⟩ w) ?_)
 rintro e w' ⟨rfl,rfl⟩
 exact ⟨_,rfl,congrArg Value.bool h,Chg.refl _ _⟩
def eqs (n:Nat):List UInt8:=List.replicate n 61
theorem z_sC (w:World) (n:Nat) (hn:n<=3):Pu Tryz.prog z_fG #[.string ⟨#[61]⟩,.int .i64 n] w (.string (mkS (eqs n))):=by
 have g:=z_hU w (Un [])
 have hml:=z_ag
 refine z_ad (cx:=z_e0 w (Un [])) g z_km rfl rfl (β:=Va.z) [.c (.v (.string ⟨#[61]⟩)),.c (.v (.int .i64 n))] 0 [] [] rfl rfl (Sat.start rfl) ?_
 have:n=0\/n=1\/n=2\/n=3:=by omega
 rcases this with rfl | rfl | rfl | rfl
 ·intro β w' hs
  exact hs.fin [] ⟨rfl,rfl⟩
 ·intro β w' hs
  exact hs.fin [] ⟨rfl,rfl⟩
 ·refine ⟨1,rfl,2,rfl,?_⟩
  refine z_af (fun β w' hs=>z_ub w' 2 (by omega)) ?_
  refine ⟨_,wrap_i64 (by omega) (by omega),?_⟩
  refine ⟨0,61,rfl,rfl,?_⟩
  refine z_af (v:= .bool false) (fun β w' hs=>hpE_c w' _ false (by decide+kernel)) ?_
  refine z_af (v:= .bool false) (fun β w' hs=>hpE_c w' _ false (by decide+kernel)) ?_
  refine z_af (v:= .bool false) (fun β w' hs=>hpE_c w' _ false (by decide+kernel)) ?_
  refine z_af (v:= .bool true) (fun β w' hs=>hpE_c w' _ true (by decide+kernel)) ?_
  refine ⟨2,0,rfl,rfl,by decide+kernel,Nat.zero_le _,?_⟩
  intro β w' hs
  exact hs.fin [] ⟨congrArg Value.string (by decide+kernel),rfl⟩
 ·refine ⟨1,rfl,3,rfl,?_⟩
  refine z_af (fun β w' hs=>z_ub w' 3 (by omega)) ?_
  refine ⟨_,wrap_i64 (by omega) (by omega),?_⟩
  refine ⟨0,61,rfl,rfl,?_⟩
  refine z_af (v:= .bool false) (fun β w' hs=>hpE_c w' _ false (by decide+kernel)) ?_
  refine z_af (v:= .bool false) (fun β w' hs=>hpE_c w' _ false (by decide+kernel)) ?_
  refine z_af (v:= .bool false) (fun β w' hs=>hpE_c w' _ false (by decide+kernel)) ?_
  refine z_af (v:= .bool true) (fun β w' hs=>hpE_c w' _ true (by decide+kernel)) ?_
  refine ⟨3,0,rfl,rfl,by decide+kernel,Nat.zero_le _,?_⟩
  intro β w' hs
  exact hs.fin [] ⟨congrArg Value.string (by decide+kernel),rfl⟩
end Go.Proofs.YtloeaiafphkjnaaGreatDoor.Sx
namespace Go.Proofs.YtloeaiafphkjnaaGreatDoor.Sx
open Go
open Go.ChangeMaps (setBlock)
variable {kk:IntKind}
section
variable {cx:Cx} {β:Va} {n:Nat} {H:List Bk} {F:List Fact} {w:World}
end
end Go.Proofs.YtloeaiafphkjnaaGreatDoor.Sx
namespace Go.Proofs.YtloeaiafphkjnaaGreatDoor.Sx
open Go
attribute [local irreducible] Calls
theorem z_sW (m:Nat):eqs m++[61]=eqs (m+1):=by
 unfold eqs
 rw [List.replicate_succ']
theorem z_ue (m:Nat):(eqs m).length=m:=by simp [eqs]
def bitA (p:List UInt8) (i:Nat):Nat:=(p.getD (i/8) 0).toNat/2^(7 - i%8)%2
def sixM (p:List UInt8) (a m:Nat):Nat:=(List.range m).foldl (fun n j=>n*2+bitA p (a+j)) 0
theorem z_gv (p:List UInt8) (a m:Nat):sixM p a (m+1)=sixM p a m*2+bitA p (a+m):=by
 unfold sixM
 rw [List.range_succ,List.foldl_append]
 rfl
def encG:List UInt8->List Nat
 | x::y::z::r=>x.toNat/4::(x.toNat%4*16+y.toNat/16)::(y.toNat%16*4+z.toNat/64)::(z.toNat%64)::encG r
 | [x,y]=>[x.toNat/4,x.toNat%4*16+y.toNat/16,y.toNat%16*4]
 | [x]=>[x.toNat/4,x.toNat%4*16]
 | []=>[]
theorem z_qx: ∀(p:List UInt8),∀v∈encG p,v<64
 | x::y::z::r,v,h=>by
  have hx:=x.toNat_lt
  have hy:=y.toNat_lt
  have hz:=z.toNat_lt
  simp only [encG,List.mem_cons] at h
  rcases h with rfl | rfl | rfl | rfl | h
  ·omega
  ·omega
  ·omega
  ·omega
  ·exact z_qx r v h
 | [x,y],v,h=>by
  have hx:=x.toNat_lt
  have hy:=y.toNat_lt
  simp only [encG,List.mem_cons,List.not_mem_nil,or_false] at h
  rcases h with rfl | rfl | rfl<;>omega
 | [x],v,h=>by
  have hx:=x.toNat_lt
  simp only [encG,List.mem_cons,List.not_mem_nil,or_false] at h
  rcases h with rfl | rfl<;>omega
 | [],v,h=>by cases h
theorem z_i9: ∀(p:List UInt8),(encG p).length=(8*p.length+5)/6
 | x::y::z::r=>by
  have:=z_i9 r
  simp only [encG,List.length_cons]
  omega
 | [x,y]=>by simp [encG]
 | [x]=>by simp [encG]
 | []=>by simp [encG]
theorem z_gA (p:List UInt8) (a:Nat):sixM p a 6=((((bitA p a*2+bitA p (a+1))*2+bitA p (a+2))*2+bitA p (a+3))*2+bitA p (a+4))*2+bitA p (a+5):=by
 simp only [z_gv]
 simp [sixM]
theorem z_qJ (x y z:UInt8) (r:List UInt8) (i:Nat):bitA (x::y::z::r) (24+i)=bitA r i:=by
 unfold bitA
 rw [show (24+i)/8=i/8+1+1+1 by omega,show (24+i)%8=i%8 by omega]
 simp only [List.getD_cons_succ]
theorem z_t5: ∀(p:List UInt8) (k:Nat),k<(encG p).length->(encG p)[k]?=some (sixM p (6*k) 6)
 | x::y::z::r,k,h=>by
  have hx:=x.toNat_lt
  have hy:=y.toNat_lt
  have hz:=z.toNat_lt
  match k,h with
  | 0,_=>
   rw [z_gA]
   simp only [encG,bitA,List.getElem?_cons_zero]
   simp
   omega
  | 1,_=>
   rw [z_gA]
   simp only [encG,bitA,List.getElem?_cons_succ,List.getElem?_cons_zero]
   simp
   omega
  | 2,_=>
   rw [z_gA]
   simp only [encG,bitA,List.getElem?_cons_succ,List.getElem?_cons_zero]
   simp
   omega
  | 3,_=>
   rw [z_gA]
   simp only [encG,bitA,List.getElem?_cons_succ,List.getElem?_cons_zero]
   simp
   omega
  | k+4,h=>
   have ih:=z_t5 r k (by simp only [encG,List.length_cons] at h;omega)
   simp only [encG,List.getElem?_cons_succ]
   rw [ih,z_gA,z_gA,show 6*(k+4)=24+6*k by omega]
   simp only [Nat.add_assoc,z_qJ]
 | [x,y],k,h=>by
  have hx:=x.toNat_lt
  have hy:=y.toNat_lt
  match k,h with
  | 0,_=>rw [z_gA];simp only [encG,bitA,List.getElem?_cons_zero];simp;omega
  | 1,_=>rw [z_gA];simp only [encG,bitA,List.getElem?_cons_succ,List.getElem?_cons_zero];simp;omega
  | 2,_=>rw [z_gA];simp only [encG,bitA,List.getElem?_cons_succ,List.getElem?_cons_zero];simp;omega
  | k+3,h=>simp only [encG,List.length_cons,List.length_nil] at h;omega
 | [x],k,h=>by
  have hx:=x.toNat_lt
  match k,h with
  | 0,_=>rw [z_gA];simp only [encG,bitA,List.getElem?_cons_zero];simp;omega
  | 1,_=>rw [z_gA];simp only [encG,bitA,List.getElem?_cons_succ,List.getElem?_cons_zero];simp;omega
  | k+2,h=>simp only [encG,List.length_cons,List.length_nil] at h;omega
 | [],k,h=>by cases h
def b64L (url:Bool) (p:List UInt8):List UInt8:=(encG p).map (letA url)
def encS (url:Bool) (p:List UInt8):List UInt8:=match url with
 | true=>b64L true p
 | false=>b64L false p++eqs ((4 - (b64L false p).length%4)%4)
theorem z_rj (p:List UInt8) (i:Nat):bitA p i<2:=Nat.mod_lt _ (by decide)
theorem z_sD {p:List UInt8} {i:Nat} (h: ¬i<8*p.length):bitA p i=0:=by
 unfold bitA
 rw [List.getD_eq_getElem?_getD,List.getElem?_eq_none (by omega)]
 simp
theorem z_rE (p:List UInt8) (a:Nat): ∀m,m<=6->sixM p a m<2^m
 | 0,_=>Nat.one_pos
 | m+1,h=>by
  have:=z_rE p a m (by omega)
  have:=z_rj p (a+m)
  rw [z_gv,Nat.pow_succ]
  omega
theorem z_uw {x:Nat} (hx:x<256):bits .and .u8 (x:Int) 1=((x%2:Nat):Int):=by
 show IntKind.u8.wrap (((BitVec.ofInt 8 (x:Int))&&&(BitVec.ofInt 8 1)).toNat:Int)=_
 have h1:(BitVec.ofInt 8 (x:Int)).toNat=x:=by
  rw [BitVec.toNat_ofInt]
  omega
 have h2:(BitVec.ofInt 8 1).toNat=2^1 - 1:=by decide
 rw [BitVec.toNat_and,h1,h2,Nat.and_two_pow_sub_one_eq_mod,IntKind.wrap_u8]
 omega
theorem z_iR (w:World) (A:Option Addr) (p:List UInt8) (c:Nat) (url:Bool) (hl:p.length<=1000000) (hm:Mem w [bsF A p]):Con Tryz.prog z_cL #[.slice A p.length c,.bool url] w [] fun v Fs=>v= .string (mkS (encS url p))/\Fs=[]:=by
 have g:=z_eF w (Un [])
 have hml:=z_ag
 have hs0:Sat (z_a7 w (Un [])) Va.z 0 [] [bsF A p] w:=hm.sat0 rfl (fun f hf ho k hk=>by obtain rfl:=List.mem_singleton.1 hf;cases ho)
 have hp:Bs w A p:=hm.fact (bsF A p) (by simp)
 refine z_ad (cx:=z_a7 w (Un [])) g z_gC rfl rfl (β:=Va.z) [.c (.v (.slice A p.length c)),.c (.v (.bool url))] 0 [] _ rfl rfl hs0 ?_
 refine ⟨(((8*p.length):Nat):Int),by rw [wrap_i64 (by omega) (by omega)];rfl,?_⟩
 have hEl:(b64L url p).length=(8*p.length+5)/6:=by unfold b64L;rw [List.length_map,z_i9]
 obtain ⟨E,hE⟩: ∃E,b64L url p=E:=⟨_,rfl⟩
 rw [hE] at hEl
 refine z_ai (ι:=Nat×Option Addr×Nat) 0 (fun j=>[(0,.c (.v (.slice A p.length c))),(1,.c (.v (.bool url))),(5,.c (.v (.slice j.2.1 (E.take j.1).length j.2.2))),(6,.c (.v (.int .i64 ((8*p.length:Nat):Int)))),(7,.c (.v (.int .i64 ((6*j.1:Nat):Int))))]) (fun _=>[]) (fun j=>[browF z_ab j.2.1 (E.take j.1) j.2.2,bsF A p])
  (fun j=>j.1<=E.length) (fun j=>E.length - j.1) (0,none,0) (Nat.zero_le _) (Ent.mk' ⟨rfl,rfl,rfl,rfl,rfl,trivial⟩ rfl (fun β w' hs=>hs.nilRow z_ab 1)) g ?_
 rintro ⟨k,B,d⟩ hk
 simp only at hk
 have hkl:(E.take k).length=k:=by rw [List.length_take];omega
 refine BIf.dec (fun hlt=>?_) (fun hge=>?_)
 ·have hlt0:((6*k:Nat):Int)<((8*p.length:Nat):Int):=hlt
  have hkE:k<E.length:=by omega
  have hEk:E[k]?=some (letA url (sixM p (6*k) 6)):=by
   rw [<-hE]
   unfold b64L
   rw [List.getElem?_map,z_t5 p k (by rw [z_i9];omega)]
   rfl
  refine z_ai (ι:=Nat) 0 (fun j=>[(0,.c (.v (.slice A p.length c))),(1,.c (.v (.bool url))),(5,.c (.v (.slice B (E.take k).length d))),(6,.c (.v (.int .i64 ((8*p.length:Nat):Int)))),(7,.c (.v (.int .i64 ((6*k:Nat):Int)))),(8,.c (.v (.int .i64 (sixM p (6*k) j:Int)))),(9,.c (.v (.int .i64 ((6*k+j:Nat):Int))))]) (fun _=>[]) (fun j=>[browF z_ab B (E.take k) d,bsF A p])
   (fun j=>j<=6) (fun j=>6 - j) (0:Nat) (Nat.zero_le _) (Ent.mk' ⟨rfl,rfl,rfl,rfl,rfl,rfl,rfl,trivial⟩ rfl (fun β w' hs=>hs)) g ?_
  intro m hm6
  have h6:=z_rE p (6*k) m hm6
  have h64:2^m<=64:=Nat.pow_le_pow_right (by decide) hm6
  refine ⟨((6*k+6:Nat):Int),by rw [wrap_i64 (by omega) (by omega)];rfl,?_⟩
  refine BIf.dec (fun hlt2=>?_) (fun hge2=>?_)
  ·have hlt20:((6*k+m:Nat):Int)<((6*k+6:Nat):Int):=hlt2
   refine ⟨((sixM p (6*k) m*2:Nat):Int),by rw [wrap_i64 (by omega) (by omega)];rfl,?_⟩
   refine BIf.dec (fun hin=>?_) (fun hout=>?_)
   ·have hin0:((6*k+m:Nat):Int)<((8*p.length:Nat):Int):=hin
    obtain ⟨y,hy, -⟩:=at_lt (show (6*k+m)/8<p.length by omega)
    obtain ⟨ad,hA⟩:=Bs.addr hp (by omega)
    have hbit:bitA p (6*k+m)=y.toNat/2^(7 - (6*k+m)%8)%2:=by
     unfold bitA
     rw [List.getD_eq_getElem?_getD,hy]
     rfl
    refine ⟨by first | decide | omega,?_⟩
    refine ⟨(((6*k+m)/8:Nat):Int),by rw [show (((6*k+m:Nat):Int)).tdiv 8=(((6*k+m)/8:Nat):Int) from (Int.ofNat_tdiv _ _).symm,wrap_i64 (by omega) (by omega)],?_⟩
    refine ⟨ad,(6*k+m)/8,hA,rfl,by omega,?_⟩
    refine ⟨byte y,fun β w' hs=>Rd.cell1 (show Rd 1 (some ad) p.length (p.map byte) w' from hA▸hs.get 1 rfl) (by rw [List.getElem?_map,hy];rfl),?_⟩
    refine ⟨by first | decide | omega,?_⟩
    refine ⟨(((6*k+m)%8:Nat):Int),Int.ofNat_tmod _ _,?_⟩
    refine ⟨((7 - (6*k+m)%8:Nat):Int),by rw [wrap_i64 (by omega) (by omega)];omega,?_⟩
    refine ⟨by first | decide | omega,?_⟩
    obtain ⟨sh,hsh⟩: ∃sh,7 - (6*k+m)%8=sh:=⟨_,rfl⟩
    rw [hsh] at hbit ⊢
    refine ⟨((y.toNat/2^sh:Nat):Int),by
     rw [Int.toNat_natCast,show min sh IntKind.u8.bits=sh from Nat.min_eq_left (by show sh<=8;omega),show ((2:Int)^sh)=((2^sh:Nat):Int) by simp,Int.fdiv_eq_ediv_of_nonneg _ (Int.natCast_nonneg _)]
     rfl,?_⟩
    have hyl:=y.toNat_lt
    have hdv:y.toNat/2^sh<256:=Nat.lt_of_le_of_lt (Nat.div_le_self _ _) hyl
    refine ⟨((y.toNat/2^sh%2:Nat):Int),z_uw hdv,?_⟩
    rw [<-hbit]
    have hb2:=z_rj p (6*k+m)
    refine BIf.dec (fun h1=>?_) (fun h1=>?_)
    ·have h10:((bitA p (6*k+m):Nat):Int)=1:=h1
     have hb1:bitA p (6*k+m)=1:=by omega
     refine ⟨((sixM p (6*k) m*2+1:Nat):Int),by rw [wrap_i64 (by omega) (by omega)];rfl,?_⟩
     refine ⟨((6*k+(m+1):Nat):Int),by rw [wrap_i64 (by omega) (by omega)];rfl,?_⟩
     exact ⟨m+1,by omega,by omega,Ent.mk' ⟨rfl,rfl,rfl,rfl,rfl,by rw [z_gv,hb1];rfl,rfl,trivial⟩ rfl (fun β w' hs=>hs)⟩
    ·have h10: ¬((bitA p (6*k+m):Nat):Int)=1:=h1
     have hb0:bitA p (6*k+m)=0:=by omega
     refine ⟨((6*k+(m+1):Nat):Int),by rw [wrap_i64 (by omega) (by omega)];rfl,?_⟩
     exact ⟨m+1,by omega,by omega,Ent.mk' ⟨rfl,rfl,rfl,rfl,rfl,by rw [z_gv,hb0];rfl,rfl,trivial⟩ rfl (fun β w' hs=>hs)⟩
   ·have hout0: ¬((6*k+m:Nat):Int)<((8*p.length:Nat):Int):=hout
    have hb0:=z_sD (p:=p) (i:=6*k+m) (by omega)
    refine ⟨((6*k+(m+1):Nat):Int),by rw [wrap_i64 (by omega) (by omega)];rfl,?_⟩
    exact ⟨m+1,by omega,by omega,Ent.mk' ⟨rfl,rfl,rfl,rfl,rfl,by rw [z_gv,hb0];rfl,rfl,trivial⟩ rfl (fun β w' hs=>hs)⟩
  ·have hge20: ¬((6*k+m:Nat):Int)<((6*k+6:Nat):Int):=hge2
   obtain rfl:m=6:=by omega
   refine z_af (fun β w' hs=>z_pE w' (sixM p (6*k) 6) url (by omega)) ?_
   intro b1
   have hE1:E.take (k+1)=E.take k++[letA url (sixM p (6*k) 6)]:=by rw [List.take_add_one,hEk];rfl
   have hE1l:(E.take k).length+1=(E.take (k+1)).length:=by rw [hE1,List.length_append];rfl
   refine ⟨1,(E.take k).length,(E.take (k+1)).length,(E.take k).map byte,[letA url (sixM p (6*k) 6)].map byte,(E.take (k+1)).map byte,rfl,fun β w' hs=>z_am (hs.get 0 rfl),z_aq _,hE1l,by rw [hE1,List.map_append],by rw [hml];omega,by show (E.take (k+1)).length*1<=_;omega,?_⟩
   intro B2 d2 r1 r2 r3
   refine ⟨((6*(k+1):Nat):Int),by rw [wrap_i64 (by omega) (by omega)];omega,?_⟩
   exact ⟨(k+1,B2,d2),by show k+1<=_;omega,by show E.length - (k+1)<E.length - k;omega,Ent.mk' ⟨rfl,rfl,rfl,rfl,rfl,trivial⟩ rfl (fun β w' hs=>hs.perm [1,2])⟩
 ·have hge0: ¬((6*k:Nat):Int)<((8*p.length:Nat):Int):=hge
  obtain rfl:k=E.length:=by omega
  rw [List.take_length]
  have hxs: ∃q,q=(if url=true then 0 else (4 - E.length%4)%4):=⟨_,rfl⟩
  obtain ⟨q,hq⟩:=hxs
  have hS:encS url p=E++eqs q:=by
   rw [hq,<-hE]
   cases url with
   | true=>show b64L true p=_;simp [eqs]
   | false=>rfl
  rw [hS]
  refine z_ai (ι:=Nat×Option Addr×Nat) 0 (fun j=>[(1,.c (.v (.bool url))),(5,.c (.v (.slice j.2.1 (E++eqs j.1).length j.2.2)))]) (fun _=>[]) (fun j=>[browF z_ab j.2.1 (E++eqs j.1) j.2.2])
   (fun j=>j.1<=q) (fun j=>4 - j.1) (0,B,d) (Nat.zero_le _) (Ent.mk' ⟨rfl,by simp only [eqs,List.replicate_zero,List.append_nil];rfl,trivial⟩ rfl (fun β w' hs=>by simp only [eqs,List.replicate_zero,List.append_nil];exact hs.perm [0])) g ?_
  rintro ⟨m,B,d⟩ hmq
  simp only at hmq
  have hEm:(E++eqs m).length=E.length+m:=by rw [List.length_append,z_ue]
  refine BIf.mk (fun hu=>?_) (fun hu=>?_)
  ·have hu0:url=false:=by simpa using hu
   rw [hu0,if_neg (by decide)] at hq
   refine ⟨by first | decide | omega,?_⟩
   refine ⟨(((E++eqs m).length%4:Nat):Int),Int.ofNat_tmod _ _,?_⟩
   refine BIf.not (BIf.dec (fun h4=>?_) (fun h4=>?_))
   ·have h40:(((E++eqs m).length%4:Nat):Int)=0:=h4
    obtain rfl:m=q:=by omega
    refine ⟨_,fun β w' hs=>z_am (hs.get 0 rfl),?_⟩
    intro β w' hs
    exact hs.fin [] ⟨rfl,rfl⟩
   ·have h40: ¬(((E++eqs m).length%4:Nat):Int)=0:=h4
    intro b1
    have hE2:E++eqs (m+1)=(E++eqs m)++[61]:=by rw [<-z_sW,List.append_assoc]
    obtain ⟨E2,hE2d⟩: ∃E2,E++eqs (m+1)=E2:=⟨_,rfl⟩
    have hE2l:(E++eqs m).length+1=E2.length:=by rw [<-hE2d,hE2];simp;omega
    refine ⟨1,(E++eqs m).length,E2.length,(E++eqs m).map byte,[(61:UInt8)].map byte,E2.map byte,rfl,fun β w' hs=>z_am (hs.get 0 rfl),z_aq _,hE2l,by rw [<-hE2d,hE2];simp,by rw [hml];omega,by show E2.length*1<=_;omega,?_⟩
    intro B2 d2 r1 r2 r3
    refine ⟨(m+1,B2,d2),by show m+1<=q;omega,by show 4 - (m+1)<4 - m;omega,?_⟩
    simp only [hE2d]
    exact Ent.mk' ⟨rfl,rfl,trivial⟩ rfl (fun β w' hs=>hs.perm [1])
  ·have hu0:url=true:=by simpa using hu
   rw [hu0,if_pos rfl] at hq
   obtain rfl:m=q:=by omega
   refine ⟨_,fun β w' hs=>z_am (hs.get 0 rfl),?_⟩
   intro β w' hs
   exact hs.fin [] ⟨rfl,rfl⟩
def mlF:Fact where
 own:=false
 D:=fun k=>k=3
 p:=fun w=> ∃m:Int,w.cell? ⟨3,0,none⟩=some (.int .i64 m)
 st:=fun w w' hs ⟨m,h⟩=>⟨m,by rw [<-h];exact World.cell?_of_block (hs _ rfl)⟩
end Go.Proofs.YtloeaiafphkjnaaGreatDoor.Sx
namespace Go.Proofs.YtloeaiafphkjnaaGreatDoor.Sx
open Go
section
variable {cx:Cx} {β:Va} {n:Nat} {env:Env} {H:List Bk} {F:List Fact} {w:World}
end
end Go.Proofs.YtloeaiafphkjnaaGreatDoor.Sx
namespace Go.Proofs.YtloeaiafphkjnaaGreatDoor.Sx
open Go
attribute [local irreducible] Calls
def digS:ByteArray:=⟨#[48,49,50,51,52,53,54,55,56,57,97,98,99,100,101,102]⟩
theorem z_tO {k:Nat} (h:k<16):digS.extract k (k+1)=mkS [dgs.getD k 0]:=by
 have key: ∀k:_root_.Fin 16,(digS.extract k.1 (k.1+1)).data.toList=[dgs.getD k.1 0]:=by decide+kernel
 have:=key ⟨k,h⟩
 simp only at this
 have e:digS.extract k (k+1)=⟨(digS.extract k (k+1)).data.toList.toArray⟩:=by cases digS.extract k (k+1);simp
 rw [e,this]
 rfl
theorem z_ap (a b:List UInt8):mkS a++mkS b=mkS (a++b):=by
 have h:(mkS a++mkS b).data.toList=(mkS (a++b)).data.toList:=by simp [mkS]
 have e: ∀s:ByteArray,s=⟨s.data.toList.toArray⟩:=fun s=>by cases s;simp
 rw [e (mkS a++mkS b),h,<-e]
theorem z_iU (s:ByteArray):mkS s.data.toList=s:=by cases s;simp [mkS]
theorem z_qp (l:List UInt8) (x:UInt8):hexB (l++[x])=hexB l++([dgs.getD (x.toNat/16) 0]++[dgs.getD (x.toNat%16) 0]):=by rw [z_nR];simp
theorem z_tL (w:World) (A:Option Addr) (l:List UInt8) (c:Nat) (hr:Bs w A l) (hn:l.length<=1000000):Pu Tryz.prog z_eg #[.slice A l.length c] w (.string (mkS (hexB l))):=by
 have g:=z_gI w (Un [])
 have hml:=z_ag
 refine z_ad (cx:=z_dT w (Un [])) g z_jc rfl rfl (β:=Va.z) [.c (.v (.slice A l.length c))] 0 [] [oldF w] rfl rfl (z_aw rfl) ?_
 refine z_ai 0 (fun k:Nat=>[(3,.c (.v (.string (mkS (hexB (l.take k)))))),(6,.c (.v (.slice A l.length c))),(7,.c (.v (.int .i64 l.length))),(8,.c (.v (.int .i64 (k:Int))))]) (fun _=>[]) (fun _=>[oldF w])
  (fun k=>k<=l.length) (fun k=>l.length - k) 0 (Nat.zero_le _) (Ent.same ⟨rfl,rfl,rfl,rfl,trivial⟩ rfl) g ?_
 intro k hk
 refine BIf.dec (fun hlt=>?_) (fun hge=>?_)
 ·have hlt0:(k:Int)<l.length:=hlt
  have hkl:k<l.length:=by omega
  obtain ⟨x,hx,hxm⟩:=at_lt hkl
  obtain ⟨ad,hA,_⟩:=hr.2 (by omega)
  have hsn:l.take (k+1)=l.take k++[x]:=by rw [List.take_add_one,hx];rfl
  obtain ⟨m,hm⟩: ∃m,x.toNat=m:=⟨_,rfl⟩
  have hm256:m<256:=by rw [<-hm];exact x.toNat_lt
  have hhl:(hexB (l.take k)).length=2*k:=by rw [z_eo,List.length_take];omega
  refine ⟨ad,k,hA,rfl,hkl,.int .u8 (m:Int),fun β w' hs=>?_,?_⟩
  ·have h:=Rd.old hr (hs.get 0 rfl)
   rw [hA] at h
   rw [<-hm]
   exact Rd.cell1 (u:=byte x) h (by rw [List.getElem?_map,hx];rfl)
  refine z_ak g z_ha (by kernel_rfl) [] [oldF w] Sub.refl ?_
  have e1:IntKind.u8.wrap ((m:Int).tdiv 16)=((m/16:Nat):Int):=by
   show IntKind.u8.wrap ((m:Int).tdiv ((16:Nat):Int))=_
   rw [<-Int.ofNat_tdiv,wrap_u8]
   omega
  have e2:(m:Int).tmod 16=((m%16:Nat):Int):=(Int.ofNat_tmod m 16).symm
  refine ⟨by decide,_,e1,by decide,_,e1,((m/16+1:Nat):Int),by rw [wrap_u8];omega,?_⟩
  refine ⟨m/16+1,m/16,rfl,rfl,by show m/16+1<=16;omega,by omega,?_⟩
  refine ⟨by decide,_,e2,by decide,_,e2,((m%16+1:Nat):Int),by rw [wrap_u8];omega,?_⟩
  refine ⟨m%16+1,m%16,rfl,rfl,by show m%16+1<=16;omega,by omega,?_⟩
  have z1:(digS.extract (m/16) (m/16+1)).size<=1:=by rw [ByteArray.size_extract];omega
  have z2:(digS.extract (m%16) (m%16+1)).size<=1:=by rw [ByteArray.size_extract];omega
  have z3:(mkS (hexB (l.take k))).size<=2000000:=by show (hexB (l.take k)).toArray.size<=_;rw [List.size_toArray];omega
  have hf:mkS (hexB (l.take k))++(digS.extract (m/16) (m/16+1)++digS.extract (m%16) (m%16+1))=mkS (hexB (l.take (k+1))):=by
   rw [z_tO (by omega),z_tO (by omega),z_ap,z_ap,hsn,z_qp,hm]
  refine ⟨by show (digS.extract (m/16) (m/16+1)).size+(digS.extract (m%16) (m%16+1)).size<=maxLen;omega,by show (mkS (hexB (l.take k))).size+(digS.extract (m/16) (m/16+1)++digS.extract (m%16) (m%16+1)).size<=maxLen;rw [ByteArray.size_append];omega,?_⟩
  refine ⟨((k+1:Nat):Int),by rw [wrap_i64 (by omega) (by omega)];rfl,?_⟩
  refine ⟨k+1,by omega,by omega,?_⟩
  rw [<-hf]
  exact Ent.same ⟨rfl,rfl,rfl,rfl,trivial⟩ rfl
 ·have hge0: ¬(k:Int)<l.length:=hge
  obtain rfl:k=l.length:=by omega
  rw [List.take_length]
  intro β w' hs
  exact hs.fin [] ⟨rfl,rfl⟩
theorem z_sE (url:Bool) {n:Nat} (h:n<64):runC (letA url n)=true:=by
 have key: ∀u:Bool,∀n:_root_.Fin 64,runC (letA u n.1)=true:=by decide+kernel
 exact key url ⟨n,h⟩
theorem z_sw (url:Bool) (p:List UInt8): ∀x∈b64L url p,runC x=true:=by
 intro x hx
 obtain ⟨v,hv,rfl⟩:=List.mem_map.1 hx
 exact z_sE url (z_qx p v hv)
theorem z_kC (url:Bool) (p:List UInt8):(b64L url p).length=(8*p.length+5)/6:=by unfold b64L;rw [List.length_map,z_i9]
end Go.Proofs.YtloeaiafphkjnaaGreatDoor.Sx
namespace Go.Proofs.YtloeaiafphkjnaaGreatDoor.Sx
open Go Go.Maps Go.Shelf Go.RowKit
attribute [local irreducible] Calls
theorem z_pa {b ty:Nat} {v:Value} {w:World} (h:(bkF b ty [v]).p w):w.cell? ⟨b,0,none⟩=some v:=by
 have hb:w.heap[b]?=some (.cells [v].toArray ty (0,0)):=h
 rw [cell_of_row w b 0 _ _ _ hb]
 rfl
theorem z_r2 {w w':World} (h:Below w.heap.size w w'):Chg None_ w w':=⟨h.os,h.tape,h.output,h.size,fun k hk _=>h.block k hk⟩
theorem sortsS (m:Nat):AnyZ.SortsIn Tryz.prog Tryz.sorted125_ren Fence.wide m:=
  ⟨fun blk off cap ss W hH hblk hsz=>callsIn_wide.2 (AnyM.slices_Sort_string Tryz.sort54 blk off cap ss W hH hblk hsz),
   fun p cap W=>callsIn_wide.2 (AnyM.slices_Sort_string_none Tryz.sort54 p cap W)⟩
abbrev trowF (A:Option Addr) (l:List ByteArray) (c:Nat):Fact:=rowF z_ah 1 (.slice A l.length c) l.length (l.map Value.string)
theorem z_pv {P:Program} {k:FuncId} {args:Array Value} {w:World} {l:List ByteArray} (h:Calls P k args w fun en w'=> ∃v,en= .returned v/\w'.ownsRow w.heap.size z_ah 1 v l.length (l.map Value.string)/\Below w.heap.size w w'):
  Con P k args w [] fun v Fs=> ∃A c,v= .slice A l.length c/\(0<l.length-> ∃ad,A=some ad)/\Fs=[trowF A l c]:=by
 refine Calls.mono h ?_
 rintro en w' ⟨v,rfl,ho,hb⟩
 obtain ⟨A,c,rfl,hA⟩: ∃A c,v= .slice A l.length c/\(0<l.length-> ∃ad,A=some ad):=by
  rcases ho.2 with ⟨rfl,h0⟩ | ⟨g,cap,cur,rfl,_⟩
  ·exact ⟨none,0,by rw [h0],fun h=>absurd h0 (by omega)⟩
  ·exact ⟨_,_,rfl,fun _=>⟨_,rfl⟩⟩
 refine ⟨_,rfl,[trowF A l c],⟨A,c,rfl,hA,rfl⟩,by rw [Un.nil];exact z_r2 hb,⟨fun g hg=>?_,fun g hg k hk=>?_,List.pairwise_singleton _ _⟩,⟨rfl,trivial⟩,fun g hg k hk=>?_⟩
 ·obtain rfl:=List.mem_singleton.1 hg;exact ownsRow_base_a ho (Nat.zero_le _)
 ·obtain rfl:=List.mem_singleton.1 hg;exact (ho.lt k hk).2
 ·obtain rfl:=List.mem_singleton.1 hg;exact .inr (ho.lt k hk).1
theorem z_l9 {ss:List (List UInt8)} {l:List ByteArray} (h:ss.Perm (l.map fun s=>s.data.toList)):(ss.mergeSort (fun x y=>decide (x<=y))).map Proofs.encStr=(sortK l).map Value.string:=by
 unfold sortK
 rw [List.map_map]
 have e:ss.mergeSort leB=(l.map fun s=>s.data.toList).mergeSort leB:=mergeSort_of_perm h
 show (ss.mergeSort leB).map _=_
 rw [e]
 exact List.map_congr_left fun a _=>rfl
theorem z_q7 (w:World) (mb:Option Nat):Con Tryz.prog 126 #[.map mb] w [] fun v Fs=> ∃B,v= .func (.func 174) #[] #[.pointer (some ⟨B,0,none⟩)]/\Fs=[bkF B 113 [.map mb]]:=by
 have h:=AnyZ.keys_in Tryz.keys126 Fence.wide 5 trivial rfl mb w
 refine Calls.mono (callsIn_wide.1 h) ?_
 rintro e w' ⟨rfl,rfl⟩
 refine ⟨_,rfl,[bkF w.heap.size 113 [.map mb]],⟨_,rfl,rfl⟩,by rw [Un.nil];exact Chg.alloc w _,⟨fun g hg=>?_,fun g hg k hk=>?_,List.pairwise_singleton _ _⟩,⟨rfl,trivial⟩,fun g hg k hk=>?_⟩
 ·obtain rfl:=List.mem_singleton.1 hg;exact heap_alloc_new w _
 ·obtain rfl:=List.mem_singleton.1 hg
  obtain rfl:k=w.heap.size:=hk
  simp
 ·obtain rfl:=List.mem_singleton.1 hg
  obtain rfl:k=w.heap.size:=hk
  exact .inr (Nat.le_refl _)
theorem z_nx (w:World) (B b:Nat) (l:ML) (ho:KeysOk l) (hl:l.length<=1000000) (hm:Mem w [bkF B 113 [.map (some b)],mapF b l]):
  Con Tryz.prog 125 #[.func (.func 174) #[] #[.pointer (some ⟨B,0,none⟩)]] w [] fun v Fs=> ∃A c,v= .slice A (sortK (l.map (·.1))).length c/\(0<(sortK (l.map (·.1))).length-> ∃ad,A=some ad)/\Fs=[trowF A (sortK (l.map (·.1))) c]:=by
 have hml:=z_ag
 have hB:=hm.fact _ List.mem_cons_self
 have hbm:mapP b l w:=hm.fact (mapF b l) (by simp)
 have hBl:B<w.heap.size:=hm.flt _ List.mem_cons_self B rfl
 obtain ⟨D,hown,hperm,hsz⟩:=z_oY (P:=Tryz.prog) (k:=z_ah) Tryz.underlying9 hbm ho hl
 have hseq:SeqGives Fence.wide 2 Tryz.prog 174 #[.pointer (some ⟨B,0,none⟩)] Proofs.encStr (fun ss=>ss.Perm (strKeys D)) (Maps.size D) w:=
  AnyZ.keys_gives (ρ:=Tryz.keys126_ren) {Tryz.keys126 with} Fence.wide _ trivial rfl (by omega) B b l.length D w hBl (z_pa hB) hown
 have cS:=AnyZ.sorted_in Tryz.sorted125 Fence.wide 5 trivial trivial trivial trivial rfl (by omega) (sortsS _) (enters_of Tryz.func54 (by kernel_rfl) rfl) 174 #[.pointer (some ⟨B,0,none⟩)] trivial (enters_of Tryz.func174 (by kernel_rfl) rfl) _ _ (by omega) (by omega) w hseq
 have hlen:(sortK (l.map (·.1))).length=l.length:=by rw [z_iO,List.length_map]
 refine z_pv (Calls.mono (callsIn_wide.1 cS) ?_)
 rintro e w' ⟨v,ss,rfl,hS,hrow,_,hb⟩
 have hp2:ss.Perm ((l.map (·.1)).map fun s=>s.data.toList):=by
  rw [List.map_map]
  exact hS.trans hperm
 have hsl:ss.length=(sortK (l.map (·.1))).length:=by rw [hlen,hp2.length_eq];simp
 rw [z_l9 hp2,hsl] at hrow
 exact ⟨v,rfl,hrow,hb⟩
theorem z_ui (w:World) (mb:Option Nat):Con Tryz.prog 128 #[.map mb] w [] fun v Fs=> ∃B,v= .func (.func 175) #[] #[.pointer (some ⟨B,0,none⟩)]/\Fs=[bkF B 144 [.map mb]]:=by
 have h:=AnyZ.keys_in Tryz.keys128 Fence.wide 5 trivial rfl mb w
 refine Calls.mono (callsIn_wide.1 h) ?_
 rintro e w' ⟨rfl,rfl⟩
 refine ⟨_,rfl,[bkF w.heap.size 144 [.map mb]],⟨_,rfl,rfl⟩,by rw [Un.nil];exact Chg.alloc w _,⟨fun g hg=>?_,fun g hg k hk=>?_,List.pairwise_singleton _ _⟩,⟨rfl,trivial⟩,fun g hg k hk=>?_⟩
 ·obtain rfl:=List.mem_singleton.1 hg;exact heap_alloc_new w _
 ·obtain rfl:=List.mem_singleton.1 hg
  obtain rfl:k=w.heap.size:=hk
  simp
 ·obtain rfl:=List.mem_singleton.1 hg
  obtain rfl:k=w.heap.size:=hk
  exact .inr (Nat.le_refl _)
theorem z_rc (w:World) (B b:Nat) (l:ML) (ho:KeysOk l) (hl:l.length<=1000000) (hm:Mem w [bkF B 144 [.map (some b)],mapF b l]):
  Con Tryz.prog 125 #[.func (.func 175) #[] #[.pointer (some ⟨B,0,none⟩)]] w [] fun v Fs=> ∃A c,v= .slice A (sortK (l.map (·.1))).length c/\(0<(sortK (l.map (·.1))).length-> ∃ad,A=some ad)/\Fs=[trowF A (sortK (l.map (·.1))) c]:=by
 have hml:=z_ag
 have hB:=hm.fact _ List.mem_cons_self
 have hbm:mapP b l w:=hm.fact (mapF b l) (by simp)
 have hBl:B<w.heap.size:=hm.flt _ List.mem_cons_self B rfl
 obtain ⟨D,hown,hperm,hsz⟩:=z_oY (P:=Tryz.prog) (k:=z_ah) Tryz.underlying9 hbm ho hl
 have hseq:SeqGives Fence.wide 2 Tryz.prog 175 #[.pointer (some ⟨B,0,none⟩)] Proofs.encStr (fun ss=>ss.Perm (strKeys D)) (Maps.size D) w:=
  AnyZ.keys_gives (ρ:=Tryz.keys128_ren) {Tryz.keys128 with} Fence.wide _ trivial rfl (by omega) B b l.length D w hBl (z_pa hB) hown
 have cS:=AnyZ.sorted_in Tryz.sorted125 Fence.wide 5 trivial trivial trivial trivial rfl (by omega) (sortsS _) (enters_of Tryz.func54 (by kernel_rfl) rfl) 175 #[.pointer (some ⟨B,0,none⟩)] trivial (enters_of Tryz.func175 (by kernel_rfl) rfl) _ _ (by omega) (by omega) w hseq
 have hlen:(sortK (l.map (·.1))).length=l.length:=by rw [z_iO,List.length_map]
 refine z_pv (Calls.mono (callsIn_wide.1 cS) ?_)
 rintro e w' ⟨v,ss,rfl,hS,hrow,_,hb⟩
 have hp2:ss.Perm ((l.map (·.1)).map fun s=>s.data.toList):=by
  rw [List.map_map]
  exact hS.trans hperm
 have hsl:ss.length=(sortK (l.map (·.1))).length:=by rw [hlen,hp2.length_eq];simp
 rw [z_l9 hp2,hsl] at hrow
 exact ⟨v,rfl,hrow,hb⟩
end Go.Proofs.YtloeaiafphkjnaaGreatDoor.Sx
namespace Go.Proofs.YtloeaiafphkjnaaGreatDoor.Sx
open Go
attribute [local irreducible] Calls
abbrev prowF (A:Option Addr) (L:List (List UInt8)) (c:Nat):Fact:=rowF z_ah 1 (.slice A L.length c) L.length (L.map fun x=>Value.string (mkS x))
theorem z_dL (l:List UInt8) (i j:Nat) (_hj:j<=l.length):(mkS l).extract i j=mkS ((l.take j).drop i):=by
 apply ByteArray.ext
 simp [mkS,List.extract_eq_take_drop]
 rw [List.drop_take]
theorem z_mG (w:World) (s:List UInt8) (d:UInt8) (hs:s.length<=1000000):Con Tryz.prog z_dj #[.string (mkS s),byte d] w [] fun v Fs=> ∃ad c,v= .slice (some ad) (splL d s).length c/\(splL d s).length<=c/\Fs=[prowF (some ad) (splL d s) c]:=by
 have g:=z_e5 w (Un [])
 refine z_ad (cx:=z_cE w (Un [])) g z_hi rfl rfl (β:=Va.z) [.c (.v (.string (mkS s))),.c (.v (byte d))] 0 [] [] rfl rfl (Sat.start rfl) ?_
 refine z_ai (ι:=Nat×Nat×List (List UInt8)×Option Addr×Nat) 0 (fun i=>[(0,.c (.v (.string (mkS s)))),(1,.c (.v (byte d))),(4,.c (.v (.slice none 0 0))),(5,.c (.v (.slice i.2.2.2.1 i.2.2.1.length i.2.2.2.2))),(6,.c (.v (.int .i64 (i.2.1:Int)))),(7,.c (.v (.int .i64 (i.1:Int))))]) (fun _=>[]) (fun i=>[prowF i.2.2.2.1 i.2.2.1 i.2.2.2.2])
  (fun i=>i.2.1<=i.1/\i.1<=s.length+1/\i.2.2.1.length<=i.1/\((i.1<=s.length/\i.2.2.1++att ((s.take i.1).drop i.2.1) (splL d (s.drop i.1))=splL d s)\/(i.1=s.length+1/\i.2.2.1=splL d s))) (fun i=>s.length+1 - i.1) (0,0,[],none,0) ⟨Nat.le_refl _,by omega,Nat.le_refl _,.inl ⟨by omega,by simpa using z_r1 (z_f6 d s)⟩⟩ (Ent.mk' ⟨rfl,rfl,rfl,rfl,rfl,rfl,trivial⟩ rfl (fun β w' hs=>by exact (hs.nilRow z_ah 1))) g ?_
 rintro ⟨k,fr,L,A,c⟩ ⟨h1,h2,h3,h4⟩
 simp only at h1 h2 h3 h4
 simp only
 have hsz:(mkS s).size=s.length:=by simp [mkS,ByteArray.size]
 refine BIf.dec (fun hk=>?_) (fun hk=>?_)
 ·have hk0:(k:Int)<=(s.length:Int):=hk
  have hkn:k<=s.length:=by omega
  obtain ⟨_,h4⟩ | ⟨h4,_⟩:=h4
  case inr=>omega
  refine BIf.dec (fun hq=>?_) (fun hq=>?_)
  ·have hq0:(k:Int)=(s.length:Int):=hq
   have hks:k=s.length:=by omega
   have hfin:L++[(s.take k).drop fr]=splL d s:=by
    rw [<-h4,List.drop_of_length_le (by omega:s.length<=k)]
    simp [splL,att]
   refine ⟨k,fr,rfl,rfl,by omega,h1,?_⟩
   rw [z_dL s fr k hkn]
   intro b1
   refine ⟨1,L.length,L.length+1,_,[.string (mkS ((s.take k).drop fr))],_,rfl,fun β w hs=>z_am (hs.get 0 rfl),(fun u hu=>by obtain rfl:=List.mem_singleton.1 hu;rfl),rfl,rfl,by rw [z_ag];omega,by show (L.length+1)*16<=_;omega,?_⟩
   intro A' c' q1 q2 q3
   refine ⟨((k+1:Nat):Int),by rw [wrap_i64 (by omega) (by omega)];rfl,?_⟩
   refine ⟨((k+1:Nat):Int),by rw [wrap_i64 (by omega) (by omega)];rfl,?_⟩
   have hle:(L++[(s.take k).drop fr]).length=L.length+1:=by simp
   refine ⟨(k+1,k+1,L++[(s.take k).drop fr],A',c'),⟨Nat.le_refl _,by show k+1<=_;omega,by show (L++[(s.take k).drop fr]).length<=k+1;omega,.inr ⟨by show k+1=_;omega,hfin⟩⟩,by show s.length+1 - (k+1)<s.length+1 - k;omega,?_⟩
   simp only [hle]
   refine Ent.mk' ⟨rfl,rfl,rfl,rfl,rfl,rfl,trivial⟩ rfl (fun β w' hs=>?_)
   have e:prowF A' (L++[(s.take k).drop fr]) c'=rowF z_ah 1 (.slice A' (L.length+1) c') (L.length+1) (L.map (fun x=>Value.string (mkS x))++[.string (mkS ((s.take k).drop fr))]):=by
    simp only [prowF,hle,List.map_append,List.map_cons,List.map_nil]
   rw [e]
   exact (hs.keepB (List.nil_sublist _)).perm [1]
  ·have hq0: ¬(k:Int)=(s.length:Int):=hq
   have hkl:k<s.length:=by omega
   obtain ⟨b,hb⟩: ∃b,s[k]?=some b:=⟨_,List.getElem?_eq_getElem hkl⟩
   refine ⟨k,b,rfl,by rw [mkSo];exact hb,?_⟩
   have hdr:s.drop k=b::s.drop (k+1):=by
    rw [List.drop_eq_getElem_cons hkl,List.getElem?_eq_getElem hkl] at *
    rw [Option.some.inj hb]
   rw [hdr,z_eM] at h4
   refine BIf.dec (fun hbd=>?_) (fun hbd=>?_)
   ·have hbd0:(b.toNat:Int)=(d.toNat:Int):=hbd
    have hbe:b=d:=UInt8.toNat_inj.1 (by omega)
    rw [if_pos hbe] at h4
    refine ⟨k,fr,rfl,rfl,by omega,h1,?_⟩
    rw [z_dL s fr k hkn]
    intro b1
    refine ⟨1,L.length,L.length+1,_,[.string (mkS ((s.take k).drop fr))],_,rfl,fun β w hs=>z_am (hs.get 0 rfl),(fun u hu=>by obtain rfl:=List.mem_singleton.1 hu;rfl),rfl,rfl,by rw [z_ag];omega,by show (L.length+1)*16<=_;omega,?_⟩
    intro A' c' q1 q2 q3
    refine ⟨((k+1:Nat):Int),by rw [wrap_i64 (by omega) (by omega)];rfl,?_⟩
    refine ⟨((k+1:Nat):Int),by rw [wrap_i64 (by omega) (by omega)];rfl,?_⟩
    have hle:(L++[(s.take k).drop fr]).length=L.length+1:=by simp
    refine ⟨(k+1,k+1,L++[(s.take k).drop fr],A',c'),⟨Nat.le_refl _,by show k+1<=_;omega,by show (L++[(s.take k).drop fr]).length<=k+1;omega,.inl ⟨by show k+1<=_;omega,by rw [show ((s.take (k+1)).drop (k+1))=[] from List.drop_of_length_le (by rw [List.length_take];omega),z_r1 (z_f6 _ _),List.append_assoc];simpa [att] using h4⟩⟩,by show s.length+1 - (k+1)<s.length+1 - k;omega,?_⟩
    simp only [hle]
    refine Ent.mk' ⟨rfl,rfl,rfl,rfl,rfl,rfl,trivial⟩ rfl (fun β w' hs=>?_)
    have e:prowF A' (L++[(s.take k).drop fr]) c'=rowF z_ah 1 (.slice A' (L.length+1) c') (L.length+1) (L.map (fun x=>Value.string (mkS x))++[.string (mkS ((s.take k).drop fr))]):=by
     simp only [prowF,hle,List.map_append,List.map_cons,List.map_nil]
    rw [e]
    exact (hs.keepB (List.nil_sublist _)).perm [1]
   ·have hbd0: ¬(b.toNat:Int)=(d.toNat:Int):=hbd
    have hbe: ¬b=d:=fun e=>hbd0 (by rw [e])
    rw [if_neg hbe,z_uQ] at h4
    have htk:(s.take (k+1)).drop fr=(s.take k).drop fr++[b]:=by
     rw [List.take_add_one,hb,List.drop_append_of_le_length (by rw [List.length_take];omega)]
     rfl
    refine ⟨((k+1:Nat):Int),by rw [wrap_i64 (by omega) (by omega)];rfl,?_⟩
    refine ⟨(k+1,fr,L,A,c),⟨by show fr<=k+1;omega,by show k+1<=_;omega,by show L.length<=k+1;omega,.inl ⟨by show k+1<=_;omega,by show L++att ((s.take (k+1)).drop fr) _=_;rw [htk];exact h4⟩⟩,by show s.length+1 - (k+1)<s.length+1 - k;omega,?_⟩
    exact Ent.mk' ⟨rfl,rfl,rfl,rfl,rfl,rfl,trivial⟩ rfl (fun β w' hs=>hs)
 ·have hk0: ¬(k:Int)<=(s.length:Int):=hk
  obtain ⟨h4,_⟩ | ⟨_,h4⟩:=h4
  ·omega
  ·subst h4
   intro β w' hs
   have h0:0<(splL d s).length:=List.length_pos_iff.2 (z_f6 d s)
   obtain ⟨ad,rfl,_⟩:=(z_am (hs.get 0 rfl)).2 (by simpa using h0)
   have hc:(splL d s).length<=c:=by
    have hr:w'.ownsRow 0 z_ah 1 (.slice (some ad) (splL d s).length c) (splL d s).length ((splL d s).map fun x=>Value.string (mkS x)):=hs.get 0 rfl
    rcases hr.2 with ⟨q,_⟩ | ⟨gb,cap,cur,hv,_,_,q,_⟩
    ·cases q
    ·injection hv with _ _ q3
     omega
   exact hs.fin [0] ⟨ad,c,rfl,hc,rfl⟩
theorem z_jf (d:UInt8): ∀s:List UInt8,(splL d s).length<=s.length+1
 | []=>Nat.le_refl _
 | c::r=>by
  have ih:=z_jf d r
  rw [z_eM]
  split
  ·simp only [List.length_cons];omega
  ·cases h:splL d r with
   | nil=>exact absurd h (z_f6 d r)
   | cons a t=>rw [h] at ih;simp only [att,List.length_cons] at ih ⊢;omega
theorem Rd.pre1 {w:World} {ad:Addr} {n:Nat} {xs:List Value} (h:Rd 1 (some ad) n xs w) (k:Nat) (hk:k<=n):Rd 1 (some ad) k (xs.take k) w:=by
 have hl:=h.1
 refine ⟨by rw [List.length_take];omega,fun h0=>?_⟩
 obtain ⟨ad',q,hc⟩:=h.2 (by omega)
 refine ⟨ad',q,fun j u hu=>hc j u ?_⟩
 have:=(List.getElem?_eq_some_iff.1 hu).1
 rw [List.length_take] at this
 rw [List.getElem?_take,if_pos (by omega)] at hu
 exact hu
theorem z_sU (w:World) (s:List UInt8) (hs:s.length<=1000000):Con Tryz.prog z_c3 #[.string (mkS s)] w [] fun v Fs=> ∃ad c X,v= .slice (some ad) (lnL s).length c/\X.own=true/\(∀w,X.p w->Rd 1 (some ad) (lnL s).length ((lnL s).map fun x=>Value.string (mkS x)) w)/\(lnL s).length<=c/\Fs=[X]:=by
 have g:=z_fw w (Un [])
 refine z_ad (cx:=z_cO w (Un [])) g z_hc rfl rfl (β:=Va.z) [.c (.v (.string (mkS s)))] 0 [] [] rfl rfl (Sat.start rfl) ?_
 refine z_ac [] (fun β w' hs'=>z_mG w' s 10 hs) ?_
 rintro v Fs ⟨ad,c,rfl,hc,rfl⟩
 have hn:=z_f6 10 s
 have hl:=z_jf 10 s
 have hln:lnL s=if (splL 10 s).getLast?=some [] then (splL 10 s).dropLast else splL 10 s:=rfl
 generalize splL 10 s=M at hn hl hln hc ⊢
 have h0:0<M.length:=List.length_pos_iff.2 hn
 obtain ⟨x,hx⟩: ∃x,M[M.length - 1]?=some x:=⟨_,List.getElem?_eq_getElem (by omega)⟩
 have hx':M.getLast?=some x:=by rw [List.getLast?_eq_getElem?];exact hx
 refine ⟨((M.length - 1:Nat):Int),by rw [wrap_i64 (by omega) (by omega)];omega,?_⟩
 refine ⟨ad,M.length - 1,rfl,rfl,by omega,?_⟩
 refine ⟨.string (mkS x),fun β w' hs=>?_,?_⟩
 ·exact Rd.cell1 (z_am (hs.get 0 rfl)) (by simp [hx])
 refine BIf.dec (fun hq=>?_) (fun hq=>?_)
 ·refine ⟨(((M.length - 1):Nat):Int),by rw [wrap_i64 (by omega) (by omega)];omega,?_⟩
  refine ⟨c,M.length - 1,0,M.length - 1,c,_,rfl,rfl,rfl,Nat.le_refl _,?_,Nat.zero_le _,rfl,rfl,rfl,?_⟩
  ·omega
  have hx0:x=[]:=mkS1 hq
  rw [hx',hx0,if_pos rfl] at hln
  have hll:(lnL s).length=M.length - 1:=by rw [hln,List.length_dropLast]
  intro β w' hs
  refine hs.fin [0] ⟨ad,c,prowF (some ad) M c,?_,rfl,fun w h=>?_,by omega,rfl⟩
  ·rw [hll,show cutA (some ad) c 0 ti9.size=some ad from by simp [cutA,Addr.add]]
   rfl
  ·have h1:=Rd.pre1 (z_am h) (M.length - 1) (by omega)
   rw [hll,hln,List.dropLast_eq_take,List.map_take]
   exact h1
 ·have hx0: ¬x=[]:=fun e=>hq (by rw [e];rfl)
  rw [hx',if_neg (fun e=>hx0 (Option.some.inj e))] at hln
  rw [hln]
  intro β w' hs
  exact hs.fin [0] ⟨ad,c,prowF (some ad) M c,rfl,rfl,fun w h=>z_am h,hc,rfl⟩
def isD (c:UInt8):Bool:=decide (48<=c.toNat/\c.toNat<=57)
def valD (s:List UInt8):Nat:=s.foldl (fun n c=>10*n+(c.toNat - 48)) 0
def rnum (s:List UInt8):Option Nat:=if s.all isD=true/\s.length<=18/\s≠[]/\(s.length=1\/s.head?≠some 48) then some (valD s) else none
theorem z_kX (l:List UInt8) (c:UInt8):valD (l++[c])=10*valD l+(c.toNat - 48):=by simp [valD]
theorem z_qz: ∀(l:List UInt8) (a k:Nat),a<10^k->l.all isD=true->l.foldl (fun n c=>10*n+(c.toNat - 48)) a<10^(k+l.length)
 | [],a,k,ha,_=>ha
 | c::r,a,k,ha,h=>by
  simp only [List.all_cons,Bool.and_eq_true] at h
  have hc:48<=c.toNat/\c.toNat<=57:=by simpa [isD] using h.1
  have:=z_qz r (10*a+(c.toNat - 48)) (k+1) (by rw [Nat.pow_succ];omega) h.2
  rw [List.length_cons,<-Nat.add_assoc,Nat.add_right_comm]
  exact this
theorem z_uI {l:List UInt8} (h:l.all isD=true):valD l<10^l.length:=by
 have:=z_qz l 0 0 (by decide) h
 rwa [Nat.zero_add] at this
theorem z_pz {s:List UInt8} {c:UInt8} (hc:c∈s) (h:isD c=false):rnum s=none:=by
 unfold rnum
 rw [if_neg]
 rintro ⟨h1,_⟩
 have:=List.all_eq_true.1 h1 c hc
 rw [h] at this
 cases this
theorem z_kE (w:World) (s:List UInt8) (hs:s.length<=1000000):Con Tryz.prog z_cM #[.string (mkS s)] w [] fun v Fs=>(∃(n:Nat) (b:Bool),v= .tuple #[.int .u64 (n:Int),.bool b]/\((b=true/\rnum s=some n)\/(b=false/\rnum s=none)))/\Fs=[]:=by
 have g:=z_eN w (Un [])
 refine z_ad (cx:=z_cn w (Un [])) g z_go rfl rfl (β:=Va.z) [.c (.v (.string (mkS s)))] 0 [] [] rfl rfl (Sat.start rfl) ?_
 refine z_ai (ι:=Nat) 0 (fun k=>[(0,.c (.v (.string (mkS s)))),(2,.c (.v (.int .u64 0))),(3,.c (.v (.bool false))),(4,.c (.v (.int .u64 ((valD (s.take k):Nat):Int)))),(5,.c (.v (.int .i64 (k:Int))))]) (fun _=>[]) (fun _=>[])
  (fun k=>k<=s.length/\k<=18/\(s.take k).all isD=true) (fun k=>s.length - k) 0 ⟨Nat.zero_le _,Nat.zero_le _,rfl⟩ (Ent.mk' ⟨rfl,rfl,rfl,rfl,rfl,trivial⟩ rfl (fun β w' hs=>hs)) g ?_
 rintro k ⟨hk,hk18,hd⟩
 refine BIf.dec (fun hlt=>?_) (fun hge=>?_)
 ·have hlt0:(k:Int)<(s.length:Int):=hlt
  have hkl:k<s.length:=by omega
  obtain ⟨c,hc⟩: ∃c,s[k]?=some c:=⟨_,List.getElem?_eq_getElem hkl⟩
  have hcm:c∈s:=List.mem_of_getElem? hc
  refine ⟨k,c,rfl,by rw [mkSo];exact hc,?_⟩
  refine BIf.dec (fun h1=>?_) (fun h1=>?_)
  ·have h10:(c.toNat:Int)<48:=h1
   intro β w' hs
   exact hs.fin [] ⟨⟨0,false,rfl,.inr ⟨rfl,z_pz hcm (by unfold isD;exact decide_eq_false (by omega))⟩⟩,rfl⟩
  have h10: ¬(c.toNat:Int)<48:=h1
  refine ⟨k,c,rfl,by rw [mkSo];exact hc,?_⟩
  refine BIf.dec (fun h2=>?_) (fun h2=>?_)
  ·have h20:(57:Int)<(c.toNat:Int):=h2
   intro β w' hs
   exact hs.fin [] ⟨⟨0,false,rfl,.inr ⟨rfl,z_pz hcm (by unfold isD;exact decide_eq_false (by omega))⟩⟩,rfl⟩
  have h20: ¬(57:Int)<(c.toNat:Int):=h2
  refine BIf.dec (fun h3=>?_) (fun h3=>?_)
  ·have h30:(17:Int)<(k:Int):=h3
   intro β w' hs
   exact hs.fin [] ⟨⟨0,false,rfl,.inr ⟨rfl,by unfold rnum;rw [if_neg (fun q=>by omega)]⟩⟩,rfl⟩
  have h30: ¬(17:Int)<(k:Int):=h3
  have htk:s.take (k+1)=s.take k++[c]:=by rw [List.take_add_one,hc];rfl
  have hlt1:=z_uI hd
  have hp:(10:Nat)^(s.take k).length<=10^17:=Nat.pow_le_pow_right (by decide) (by rw [List.length_take];omega)
  have hp2:(10:Nat)^17=100000000000000000:=by decide
  rw [hp2] at hp
  have hcn:=c.toNat_lt
  obtain ⟨x,hx⟩: ∃x,valD (s.take k)=x:=⟨_,rfl⟩
  rw [hx] at hlt1 ⊢
  have hx2:valD (s.take (k+1))=10*x+(c.toNat - 48):=by rw [htk,z_kX,hx]
  refine ⟨((10*x:Nat):Int),by rw [IntKind.wrap_u64];omega,?_⟩
  refine ⟨k,c,rfl,by rw [mkSo];exact hc,?_⟩
  refine ⟨((c.toNat - 48:Nat):Int),by rw [IntKind.wrap_u8];omega,?_⟩
  refine ⟨((c.toNat - 48:Nat):Int),by rw [IntKind.wrap_u64];omega,?_⟩
  refine ⟨((10*x+(c.toNat - 48):Nat):Int),by rw [IntKind.wrap_u64];omega,?_⟩
  refine ⟨((k+1:Nat):Int),by rw [wrap_i64 (by omega) (by omega)];rfl,?_⟩
  refine ⟨k+1,⟨by omega,by omega,?_⟩,by omega,?_⟩
  ·rw [htk,List.all_append,hd]
   simp only [List.all_cons,List.all_nil,Bool.and_true,Bool.true_and]
   unfold isD
   exact decide_eq_true (by omega)
  ·simp only [hx2]
   exact Ent.mk' ⟨rfl,rfl,rfl,rfl,rfl,trivial⟩ rfl (fun β w' hs=>hs)
 ·have hge0: ¬(k:Int)<(s.length:Int):=hge
  have hke:k=s.length:=by omega
  subst hke
  rw [List.take_length] at hd ⊢
  refine z_ak g z_e3 (by kernel_rfl) [] [] Sub.refl ?_
  refine BIf.dec (fun h0=>?_) (fun h0=>?_)
  ·have h00:(0:Int)<(s.length:Int):=h0
   have hne:s≠[]:=fun e=>by rw [e] at h00;exact absurd h00 (by decide)
   refine BIf.dec (fun h1=>?_) (fun h1=>?_)
   ·have h10:(s.length:Int)=1:=h1
    intro β w' hs
    exact hs.fin [] ⟨⟨valD s,true,rfl,.inl ⟨rfl,by unfold rnum;rw [if_pos ⟨hd,hk18,hne,.inl (by omega)⟩]⟩⟩,rfl⟩
   ·have h10: ¬(s.length:Int)=1:=h1
    obtain ⟨c,r,e⟩: ∃c r,s=c::r:=by
     cases s with
     | nil=>exact absurd rfl hne
     | cons c r=>exact ⟨c,r,rfl⟩
    refine ⟨0,c,rfl,by rw [mkSo,e];rfl,?_⟩
    intro β w' hs
    refine hs.fin [] ⟨⟨valD s,!decide ((c.toNat:Int)=48),rfl,?_⟩,rfl⟩
    by_cases h48:c=48
    ·refine .inr ⟨by rw [h48];rfl,?_⟩
     unfold rnum
     rw [if_neg]
     rintro ⟨_,_,_,q | q⟩
     ·omega
     ·exact q (by rw [e,h48];rfl)
    ·have h48n: ¬(c.toNat:Int)=48:=fun q=>h48 (UInt8.toNat_inj.1 (by show c.toNat=48;omega))
     refine .inl ⟨by simp [h48n],?_⟩
     unfold rnum
     rw [if_pos ⟨hd,hk18,hne,.inr (by rw [e];exact fun q=>h48 (Option.some.inj q))⟩]
  ·have h00: ¬(0:Int)<(s.length:Int):=h0
   have he:s=[]:=List.length_eq_zero_iff.1 (by omega)
   intro β w' hs
   exact hs.fin [] ⟨⟨valD s,false,rfl,.inr ⟨rfl,by unfold rnum;rw [if_neg (fun q=>q.2.2.1 he)]⟩⟩,rfl⟩
theorem z_nJ (w:World) (a:Addr) (k r:Nat):(w.freeze a k).shape? r=w.shape? r:=by
 unfold World.freeze
 split
 ·rfl
 ·unfold World.shape?
  simp only [Array.getElem?_modify]
  by_cases h:a.block=r
  ·rw [if_pos h]
   cases hw:w.heap[r]? with
   | none=>rfl
   | some o=>cases o<;>simp
  ·rw [if_neg h]
def fzP (g:Nat) (l:List UInt8) (w:World):Prop:=(∃cells,w.shape? g=some (z_ab,cells)/\l.length<=cells)/\ ∀j x,l[j]?=some x->w.cell? ((⟨g,0,none⟩:Addr).add j)=some (.int .u8 x.toNat)
def fzF (g:Nat) (l:List UInt8):Fact where
 own:=true
 D:=fun k=>k=g
 p:=fzP g l
 st:=fun w w' hs h=>by
  have e:w'.heap[g]?=w.heap[g]?:=hs g rfl
  obtain ⟨⟨cs,h1,h2⟩,h3⟩:=h
  refine ⟨⟨cs,by unfold World.shape?;rw [e];exact h1,h2⟩,fun j x hj=>?_⟩
  rw [<-h3 j x hj]
  unfold World.cell?
  rw [show ((⟨g,0,none⟩:Addr).add j).block=g from by unfold Addr.add;split<;>rfl,e]
theorem z_qN {A:Option Addr} {l:List UInt8} {c:Nat} {w:World} (hne:l≠[]) (h:(browF z_ab A l c).p w): ∃g,A=some ⟨g,0,none⟩/\l.length<=c/\c<=maxLen/\fzP g l w/\ ∀k,(browF z_ab A l c).D k↔k=g:=by
 have hl0:l.length≠0:=by simpa using hne
 have hrow:w.ownsRow 0 z_ab 1 (.slice A l.length c) l.length (l.map byte):=h
 have hr:=z_am hrow
 rcases hrow.2 with ⟨_,hz⟩ | ⟨gb,cap,cur,hv,_,hg,h1,h2,h3,_⟩
 ·exact absurd hz hl0
 ·injection hv with h4 h5 h6
  subst h4 h6
  obtain ⟨ad,q,hc⟩:=hr.2 (by omega)
  obtain rfl:=Option.some.inj q
  refine ⟨gb,rfl,h1,h2,⟨⟨cur.size,by simp [World.shape?,hg],by omega⟩,fun j x hx=>hc j (byte x) (by simp [hx])⟩,fun k=>?_⟩
  show (some gb=some k)↔k=gb
  exact ⟨fun q=>(Option.some.inj q).symm,fun q=>by rw [q]⟩
theorem z_q3 (w:World) (b g:Nat) (p:Value) (l:List UInt8) (c:Nat) (X:Fact) (hX:X.own=true) (hD: ∀k,X.D k↔k=g) (hp: ∀w,X.p w->fzP g l w) (hne:l≠[]) (hlc:l.length<=c) (hcm:c<=maxLen) (hm:Mem w [bkF b z_ae [p,.slice (some ⟨g,0,none⟩) l.length c],X]):
  Con Tryz.prog z_av #[selfV b] w [bkF b z_ae [p,.slice (some ⟨g,0,none⟩) l.length c],X] fun v Fs=>v= .string ⟨l.toArray⟩/\Fs=[bkF b z_ae [p,.slice (some ⟨g,0,none⟩) l.length c],fzF g l]:=by
 have gd:=z_bh w (Un [bkF b z_ae [p,.slice (some ⟨g,0,none⟩) l.length c],X])
 have hl0:l.length≠0:=by simpa using hne
 refine z_ad (cx:=z_aT w (Un [bkF b z_ae [p,.slice (some ⟨g,0,none⟩) l.length c],X])) gd z_bW rfl rfl (β:=Va.z) [.c (.v (selfV b))] 0 [] _ rfl rfl (hm.sat0 rfl (fun f hf _ k hk=>⟨f,hf,hk⟩)) ?_
 refine z_ak gd z_bv (by kernel_rfl) [] [bkF b z_ae [p,.slice (some ⟨g,0,none⟩) l.length c]] (Sub.of (List.nil_sublist _) (List.sublist_append_left [_] [_])) ?_
 have hcell: ∀(cx:Cx) (n:Nat) (β:Va) (w':World),Sat cx β n [] [bkF b z_ae [p,.slice (some ⟨g,0,none⟩) l.length c]] w'->w'.cell? ⟨b,1,none⟩=some (.slice (some ⟨g,0,none⟩) l.length c):=fun cx n β w' hs=>by
  have hb:w'.heap[b]?=some (.cells #[p,.slice (some ⟨g,0,none⟩) l.length c] z_ae (0,0)):=hs.get 0 rfl
  rw [cell_of_row w' b 1 _ _ _ hb];rfl
 refine ⟨.slice (some ⟨g,0,none⟩) l.length c,hcell _ _,?_⟩
 refine ⟨.slice (some ⟨g,0,none⟩) l.length c,hcell _ _,?_⟩
 refine ⟨[],_,.c (.v (.pointer (some ⟨g,0,none⟩))),fun β w' ty hs=>⟨w',?_,hs⟩,trivial,Sub.of (List.nil_sublist _) (List.sublist_append_left [_] [_]),?_⟩
 ·have:=Lib.run_unsafeSliceData_row (P:=Tryz.prog) w' #[z_al] ty ⟨g,0,none⟩ l.length c (by omega)
  simp only [builtin,Sem.run_bind]
  erw [this]
  rfl
 refine ⟨[],[bkF b z_ae [p,.slice (some ⟨g,0,none⟩) l.length c],fzF g l],.c (.v (.string ⟨l.toArray⟩)),fun β w' ty hs=>⟨w'.freeze ⟨g,0,none⟩ l.length,?_,?_⟩,trivial,Sub.of (List.nil_sublist _) (List.sublist_append_left [_] [_]),?_⟩
 ·obtain ⟨⟨cs,hsh,hle⟩,hcs⟩:=hp w' (hs.get 1 rfl)
  have:=Lib.run_unsafeString_row (P:=Tryz.prog) w' z_gO 3 ty z_ab z_pu cellsU8 g cs hsh l hne hle (by rw [z_ag] at hcm;omega) hcs
  simp only [builtin,Sem.run_bind]
  erw [this]
  rfl
 ·have hq:=hp w' (hs.get 1 rfl)
  have hlt:=hs.flt X (List.mem_of_getElem? (i:=1) rfl) g ((hD g).2 rfl)
  refine (hs.swap [1] ⟨hX,trivial⟩ (Fs:=[fzF g l]) (Chg.mono (z_g2 _ _ _) (fun i _ q=>⟨_,List.mem_singleton.2 rfl,?_⟩)) ⟨fun f hf=>?_,fun f hf k hk=>?_,List.pairwise_singleton _ _⟩ (fun f hf=>?_)).perm [1,0]
  ·obtain rfl:i=g:=q
   exact (hD _).2 rfl
  ·obtain rfl:=List.mem_singleton.1 hf
   obtain ⟨⟨cs,h1,h2⟩,h3⟩:=hq
   exact ⟨⟨cs,by rw [z_nJ];exact h1,h2⟩,fun j x hj=>by rw [z_kR];exact h3 j x hj⟩
  ·obtain rfl:=List.mem_singleton.1 hf
   obtain rfl:k=g:=hk
   exact Nat.lt_of_lt_of_le hlt (z_g2 _ _ _).size
  ·obtain rfl:=List.mem_singleton.1 hf
   rintro k rfl
   exact .inl ⟨X,List.mem_singleton.2 rfl,(hD _).2 rfl⟩
 intro β w' hs
 exact hs.fin [0,1] ⟨rfl,rfl⟩
theorem z_si (w:World) (b:Nat) (p:Value) (A:Option Addr) (l:List UInt8) (c:Nat) (hne:l≠[]) (hm:Mem w (bldF b p A l c)):
  Con Tryz.prog z_av #[selfV b] w (bldF b p A l c) fun v Fs=>v= .string ⟨l.toArray⟩/\ ∃g,A=some ⟨g,0,none⟩/\l.length<=c/\c<=maxLen/\Fs=[bkF b z_ae [p,.slice (some ⟨g,0,none⟩) l.length c],fzF g l]:=by
 obtain ⟨g,rfl,h1,h2,_,hD⟩:=z_qN hne (hm.fact (browF z_ab A l c) (List.mem_cons_of_mem _ List.mem_cons_self))
 refine (z_q3 w b g p l c _ rfl hD (fun w q=>?_) hne h1 h2 hm).mono fun v Fs h=>⟨h.1,g,rfl,h1,h2,h.2⟩
 obtain ⟨g',q1,_,_,q2,_⟩:=z_qN hne q
 obtain rfl:g=g':=by injection q1 with q;injection q
 exact q2
theorem z_rx (w:World) (b g:Nat) (p:Value) (l:List UInt8) (c:Nat) (hne:l≠[]) (hlc:l.length<=c) (hcm:c<=maxLen) (hm:Mem w [bkF b z_ae [p,.slice (some ⟨g,0,none⟩) l.length c],fzF g l]):
  Con Tryz.prog z_av #[selfV b] w [bkF b z_ae [p,.slice (some ⟨g,0,none⟩) l.length c],fzF g l] fun v Fs=>v= .string ⟨l.toArray⟩/\Fs=[bkF b z_ae [p,.slice (some ⟨g,0,none⟩) l.length c],fzF g l]:=
 z_q3 w b g p l c _ rfl (fun _=>Iff.rfl) (fun _ q=>q) hne hlc hcm hm
theorem z_ju (w:World) (b:Nat) (p:Value) (A:Option Addr) (l:List UInt8) (c:Nat) (x:List UInt8) (hp:p= .pointer none\/p=selfV b) (hl:l.length<=100000000) (hx:x.length<=100000000) (hm:Mem w (bldF b p A l c)):
  Con Tryz.prog z_a3 #[selfV b,.string (mkS x)] w (bldF b p A l c) fun v Fs=>v= .tuple #[.int .i64 (x.length:Int),.nilIface]/\ ∃A' c',Fs=bldF b (selfV b) A' (l++x) c':=by
 have g:=z_b9 w (Un (bldF b p A l c))
 refine z_ad (cx:=z_aY w (Un (bldF b p A l c))) g z_cX rfl rfl (β:=Va.z) [.c (.v (selfV b)),.c (.v (.string (mkS x)))] 0 [] _ rfl rfl (hm.sat0 rfl (fun f hf _ k hk=>⟨f,hf,hk⟩)) ?_
 refine z_ac [0] (fun β w' hs=>z_ly w' b p _ hp (hs.get 0 rfl)) ?_
 rintro v Fs ⟨rfl,rfl⟩
 refine ⟨.slice A l.length c,fun β w' hs=>by
  have hb:w'.heap[b]?=some (.cells #[selfV b,.slice A l.length c] z_ae (0,0)):=hs.get 0 rfl
  show w'.cell? ⟨b,1,none⟩=_
  rw [cell_of_row w' b 1 _ _ _ hb];rfl,?_⟩
 refine ⟨1,l.length,x.length,l.length+x.length,l.map byte,x.map byte,(l++x).map byte,rfl,⟨rfl,rfl,by rw [mkSo]⟩,rfl,by simp,by rw [z_ag];omega,by show (l.length+x.length)*1<=_;omega,?_⟩
 intro A' c' h1 h2 h3
 refine ⟨_,fun β w' hs=>hs.bkSet 0 (o:=1) (us:=[.slice A' (l.length+x.length) c']) rfl (Nat.le_refl 2) (fun u hu=>by obtain rfl:=List.mem_singleton.1 hu;rfl),?_⟩
 intro β w' hs
 have e:(l++x).length=l.length+x.length:=by simp
 refine hs.fin [0,1] ⟨rfl,A',c',?_⟩
 show [bkF b z_ae [selfV b,.slice A' (l.length+x.length) c'],rowF z_ab 1 (.slice A' (l.length+x.length) c') (l.length+x.length) ((l++x).map byte)]=_
 rw [<-e]
 rfl
def decimS (u:Nat):ByteArray:=⟨(Lib.decDigits u).toArray⟩
theorem z_tJ (w:World) (u:Nat) (hu:u<100):Pu Tryz.prog z_eX #[.int .i64 (u:Int)] w (.string (decimS u)):=by
 refine pu_of (Calls.mono (Tryz.internal_strconv_small u hu w) ?_)
 rintro e w' ⟨rfl,rfl⟩
 exact ⟨_,rfl,rfl,Chg.refl _ _⟩
theorem z_t4 (w:World) (u:Nat) (hu:u<100):Pu Tryz.prog z_aF #[.int .u64 (u:Int),.int .i64 10] w (.string (decimS u)):=by
 obtain ⟨x,hx⟩: ∃x:Int,(u:Int)=x:=⟨_,rfl⟩
 rw [hx]
 refine z_ad (cx:=z_aX w (Un [])) (z_cb w (Un [])) z_cW rfl rfl (β:=Va.z) [.c (.v (.int .u64 x)),.c (.v (.int .i64 10))] 0 [] [] rfl rfl (Sat.start rfl) ?_
 refine BIf.dec (fun _=>?_) (fun h=>absurd (show x<100 by omega) h)
 refine ⟨x,by rw [wrap_i64 (by omega) (by omega)],?_⟩
 refine z_af (fun β w' hs=>by rw [<-hx];exact z_tJ w' u hu) ?_
 intro β w' hs
 exact hs.fin [] ⟨rfl,rfl⟩
theorem z_vp (w:World) (u:Nat) (hu:u<100):Pu Tryz.prog z_bw #[.int .u64 (u:Int),.int .i64 10] w (.string (decimS u)):=by
 refine z_ad (cx:=z_bf w (Un [])) (z_b6 w (Un [])) z_c4 rfl rfl (β:=Va.z) [.c (.v (.int .u64 (u:Int))),.c (.v (.int .i64 10))] 0 [] [] rfl rfl (Sat.start rfl) ?_
 refine z_af (fun β w' hs=>z_t4 w' u hu) ?_
 intro β w' hs
 exact hs.fin [] ⟨rfl,rfl⟩
def digD:ByteArray:=⟨#[48,49,50,51,52,53,54,55,56,57]⟩
theorem z_u5: ∀d:_root_.Fin 10,digD.extract d.1 (d.1+1)=⟨#[UInt8.ofNat (48+d.1)]⟩:=by decide+kernel
theorem z_jm {n:Nat} (h:n<10):Lib.decDigits n=[UInt8.ofNat (48+n)]:=by rw [Lib.decDigits,dif_pos h]
theorem z_pD {n:Nat} (h: ¬n<10):Lib.decDigits n=Lib.decDigits (n/10)++[UInt8.ofNat (48+n%10)]:=by rw [Lib.decDigits,dif_neg h]
theorem z_pr: ∀k n:Nat,n<10^(k+1)->(Lib.decDigits n).length<=k+1
 | 0,n,h=>by rw [z_jm (by simpa using h)];exact Nat.le_refl _
 | k+1,n,h=>by
  by_cases hn:n<10
  ·rw [z_jm hn];show 1<=_;omega
  ·rw [z_pD hn,List.length_append]
   have:=z_pr k (n/10) (by rw [Nat.div_lt_iff_lt_mul (by decide)];rw [Nat.pow_succ] at h;exact h)
   show _+1<=_
   omega
theorem z_jw {n:Nat} (h:n<18446744073709551616):(decimS n).size<=20:=z_pr 19 n (Nat.lt_trans h (by decide))
structure DecJ where
 n:Nat
 s:ByteArray
theorem dec_c (w:World) (N:Nat) (hN:N<18446744073709551616):Pu Tryz.prog z_eb #[.int .u64 (N:Int)] w (.string (decimS N)):=by
 have g:=z_gm w (Un [])
 have hml:=z_ag
 obtain ⟨x0,hx0⟩: ∃x0:Int,(N:Int)=x0:=⟨_,rfl⟩
 rw [hx0]
 refine z_ad (cx:=z_dE w (Un [])) g z_ix rfl rfl (β:=Va.z) [.c (.v (.int .u64 x0))] 0 [] [] rfl rfl (Sat.start rfl) ?_
 rw [<-hx0]
 refine z_ai (ι:=DecJ) 0 (fun j=>[(0,.c (.v (.int .u64 (j.n:Int)))),(3,.c (.v (.string j.s)))]) (fun _=>[]) (fun _=>[])
  (fun j=>j.n<18446744073709551616/\Lib.decDigits j.n++j.s.data.toList=Lib.decDigits N) (fun j=>j.n) ⟨N,⟨#[]⟩⟩ ⟨hN,by simp⟩ (Ent.same ⟨rfl,rfl,trivial⟩ rfl) g ?_
 rintro ⟨n,s⟩ ⟨hn,hd⟩
 simp only at hn hd
 have hsz:s.size<=20:=by
  have h1:=z_jw hN
  have h2:(decimS N).size=(Lib.decDigits N).length:=rfl
  rw [h2,<-hd,List.length_append] at h1
  have h3:s.size=s.data.toList.length:=rfl
  omega
 have hd10:n%10<10:=Nat.mod_lt _ (by decide)
 refine ⟨by decide,((n%10:Nat):Int),Int.ofNat_tmod _ _,?_⟩
 refine ⟨by decide,((n%10:Nat):Int),Int.ofNat_tmod _ _,?_⟩
 refine ⟨((n%10+1:Nat):Int),by rw [z_aV];omega,?_⟩
 refine ⟨n%10+1,n%10,rfl,rfl,by show n%10+1<=10;omega,by omega,?_⟩
 have hex:=z_u5 ⟨n%10,hd10⟩
 have hex2:(⟨#[48,49,50,51,52,53,54,55,56,57]⟩:ByteArray).extract (n%10) (n%10+1)=⟨#[UInt8.ofNat (48+n%10)]⟩:=hex
 rw [hex2]
 refine ⟨by show 1+s.size<=maxLen;omega,?_⟩
 refine ⟨by decide,((n/10:Nat):Int),by show IntKind.u64.wrap ((n:Int).tdiv 10)=_;rw [z_aV,Int.tdiv_eq_ediv_of_nonneg (by omega)];omega,?_⟩
 refine BIf.dec (fun h0=>?_) (fun h0=>?_)
 ·have h00:((n/10:Nat):Int)=0:=h0
  intro β w' hs
  refine hs.fin [] ⟨?_,rfl⟩
  have h10:n<10:=by omega
  rw [Nat.mod_eq_of_lt h10]
  have e:(⟨#[UInt8.ofNat (48+n)]⟩++s:ByteArray)=decimS N:=by
   apply ByteArray.ext
   apply Array.ext'
   have e1:(decimS N).data.toList=Lib.decDigits N:=rfl
   rw [e1,<-hd,z_jm h10,ByteArray.data_append]
   simp
  rw [e]
  rfl
 ·have h00: ¬((n/10:Nat):Int)=0:=h0
  refine ⟨⟨n/10,⟨#[UInt8.ofNat (48+n%10)]⟩++s⟩,⟨by show n/10<_;omega,?_⟩,by show n/10<n;omega,Ent.same ⟨rfl,rfl,trivial⟩ rfl⟩
  show Lib.decDigits (n/10)++(⟨#[UInt8.ofNat (48+n%10)]⟩++s:ByteArray).data.toList=_
  rw [<-hd,z_pD (n:=n) (by omega),ByteArray.data_append]
  simp
def sumL (b:List UInt8):List UInt8:=[115,117,109,32]++hexB (Sha.sum b)++[10]
theorem z_ct (b:List UInt8):(sumL b).length=69:=by
 simp [sumL,z_eo]
 rfl
theorem z_eK (w:World) (s:List UInt8) (hs:s.length<=1000000) (h1:(oddF 2).p w) (h0:(firstF 0).p w):Pu Tryz.prog z_mj #[.string (mkS s)] w (.string (mkS (sumL s))):=by
 have g:=z_mM w (Un [])
 have hml:=z_ag
 refine z_ad (cx:=z_lE w (Un [])) g z_pP rfl rfl (β:=Va.z) [.c (.v (.string (mkS s)))] 0 [] [oldF w] rfl rfl (z_aw rfl) ?_
 intro b c hc1 hc2 b2
 refine z_ac [] (fun β w' hs'=>by
  have e:=z_vJ w' (some ⟨b2,0,none⟩) (some ⟨b,0,none⟩) 1 c s (z_am (hs'.get 0 rfl)) (by have q:=hs'.get 1 rfl;simp only [mkSo] at q;exact q) (by omega) (Rd.old h1 (hs'.get 2 rfl)) (Rd.old h0 (hs'.get 2 rfl))
  exact e) ?_
 rintro v Fs ⟨A3,c3,rfl,h3,h4,rfl⟩
 refine z_af (v:= .string ⟨(hexB (Sha.sum s)).toArray⟩) (fun β w' hs'=>by
  have e:=hex_c w' A3 (Sha.sum s) c3 (z_am (hs'.get 0 rfl)) (fun q=>by have:=congrArg List.length q;exact absurd (show (32:Nat)=0 from this) (by decide)) (by show 32<=_;omega)
  exact e) ?_
 have hx:(hexB (Sha.sum s)).length=64:=by rw [z_eo];rfl
 refine ⟨by show 4+(hexB (Sha.sum s)).length<=maxLen;omega,?_⟩
 refine ⟨by show (mkS [115,117,109,32]++mkS (hexB (Sha.sum s))).size+1<=maxLen;rw [z_ap];show ([115,117,109,32]++hexB (Sha.sum s)).length+1<=_;rw [List.length_append,hx];show 4+64+1<=_;omega,?_⟩
 intro β w' hs'
 refine (hs'.keepB (List.nil_sublist _)).fin [] ⟨?_,rfl⟩
 show Value.string (mkS [115,117,109,32]++mkS (hexB (Sha.sum s))++mkS [10])=_
 rw [z_ap,z_ap]
 rfl
theorem z_i7 (w:World) (s:List UInt8) (hs:s.length<=1000000) (h1:(oddF 1).p w):Pu Tryz.prog z_cR #[.string (mkS s)] w (.string (mkS (s++sumL s))):=by
 have g:=z_e1 w (Un [])
 have hml:=z_ag
 refine z_ad (cx:=z_cj w (Un [])) g z_gh rfl rfl (β:=Va.z) [.c (.v (.string (mkS s)))] 0 [] [oldF w] rfl rfl (z_aw rfl) ?_
 refine ⟨by show s.length+4<=maxLen;omega,?_⟩
 intro b c hc1 hc2
 refine z_ac [] (fun β w' hs'=>by
  have e:=z_vW w' (some ⟨b,0,none⟩) s c (by have q:=hs'.get 0 rfl;simp only [mkSo] at q;exact q) (Rd.old h1 (hs'.get 1 rfl)) (by omega)
  exact e) ?_
 rintro v Fs ⟨A3,c3,rfl,h3,h4,rfl⟩
 refine z_af (v:= .string (mkS (hexB (Sha.sum s)))) (fun β w' hs'=>by
  have e:=z_tL w' A3 (Sha.sum s) c3 (z_am (hs'.get 0 rfl)) (by show 32<=_;omega)
  exact e) ?_
 have hx:(hexB (Sha.sum s)).length=64:=by rw [z_eo];rfl
 refine ⟨by show (mkS s++mkS [115,117,109,32]).size+(hexB (Sha.sum s)).length<=maxLen;rw [z_ap];show (s++[115,117,109,32]).length+_<=_;rw [List.length_append,hx];show s.length+4+64<=_;omega,?_⟩
 refine ⟨by show (mkS s++mkS [115,117,109,32]++mkS (hexB (Sha.sum s))).size+1<=maxLen;rw [z_ap,z_ap];show (s++[115,117,109,32]++hexB (Sha.sum s)).length+1<=_;rw [List.length_append,List.length_append,hx];show s.length+4+64+1<=_;omega,?_⟩
 intro β w' hs'
 refine (hs'.keepB (List.nil_sublist _)).fin [] ⟨?_,rfl⟩
 show Value.string (mkS s++mkS [115,117,109,32]++mkS (hexB (Sha.sum s))++mkS [10])=_
 rw [z_ap,z_ap,z_ap]
 simp only [sumL,List.append_assoc]
theorem z_n4 (w:World) (u:Nat) (hu:u<100):Pu Tryz.prog z_dv #[.int .u64 (u:Int)] w (.string (decimS u)):=by
 have g:=z_iT w (Un [])
 refine z_ad (cx:=z_hO w (Un [])) g z_mp rfl rfl (β:=Va.z) [.c (.v (.int .u64 (u:Int)))] 0 [] [] rfl rfl (Sat.start rfl) ?_
 refine z_af (v:= .string (decimS u)) (fun β w' hs=>z_vp w' u hu) ?_
 intro β w' hs
 exact hs.fin [] ⟨rfl,rfl⟩
def isIf:Option TypeDesc->Bool
 | some (.interface _)=>true
 | _=>false
theorem z_pG {P:Program} {t:TypeId} (ht:isIf (P.underlying t)=true) (w:World):(Op.equalIn Op.maxDepth t .nilIface .nilIface).run P w= .ok true w:=by
 obtain ⟨ms,hm⟩: ∃ms,P.underlying t=some (.interface ms):=by
  unfold isIf at ht
  split at ht
  ·rename_i ms h;exact ⟨ms,h⟩
  ·cases ht
 rw [show Op.maxDepth=9999+1 from rfl]
 unfold Op.equalIn
 simp [run_underlying hm]
theorem z_rM {P:Program} {t:TypeId} (ht:isIf (P.underlying t)=true) (x:Operand) (w:World):(binSem .neq t x (.const .nilIface) .nilIface .nilIface).run P w= .ok (.bool false) w:=by
 simp [binSem,eqGuard,binOp,Op.equal,z_pG ht]
theorem z_rF {P:Program} {t:TypeId} (ht:isIf (P.underlying t)=true) (x:Operand) (w:World):(binSem .eql t x (.const .nilIface) .nilIface .nilIface).run P w= .ok (.bool true) w:=by
 simp [binSem,eqGuard,binOp,Op.equal,z_pG ht]
theorem z_vs:decimS 0=mkS [48]:=by decide+kernel
theorem z_tu (w:World) (t:ByteArray) (u:Nat) (ht:t.size<=1000000) (h:Lib.parseUintB 64 t.data.toList= .ok u):Pu Tryz.prog z_a9 #[.string t,.int .i64 10,.int .i64 64] w (.tuple #[.int .u64 (u:Int),.nilIface]):=by
 refine pu_of (Calls.mono (Tryz.internal_strconv_ParseUint_10_at64 t (by omega) w) ?_)
 rintro e w' ⟨rfl,hw⟩
 refine ⟨_,rfl,by rw [h];rfl,?_⟩
 rcases hw with rfl | rfl
 ·exact Chg.refl _ _
 ·exact ⟨rfl,rfl,rfl,by rw [Lib.bytesWorld_size];omega,fun k hk _=>Lib.bytesWorld_at_old w _ t k hk⟩
theorem z_tm (w:World) (t:ByteArray) (u:Nat) (ht:t.size<=1000000) (h:Lib.parseUintB 64 t.data.toList= .ok u):Pu Tryz.prog z_bM #[.string t,.int .i64 10,.int .i64 64] w (.tuple #[.int .u64 (u:Int),.nilIface]):=by
 have g:=z_ck w (Un [])
 refine z_ad (cx:=z_bC w (Un [])) g z_dH rfl rfl (β:=Va.z) [.c (.v (.string t)),.c (.v (.int .i64 10)),.c (.v (.int .i64 64))] 0 [] [] rfl rfl (Sat.start rfl) ?_
 refine z_af (v:= .tuple #[.int .u64 (u:Int),.nilIface]) (fun β w' hs=>z_tu w' t u ht h) ?_
 refine ⟨false,fun w=>z_rM (by kernel_rfl) _ _,?_⟩
 intro β w' hs
 exact hs.fin [] ⟨rfl,rfl⟩
theorem z_qU (w:World):Pu Tryz.prog z_ff #[.string (mkS [48])] w (.tuple #[.int .u64 0,.bool true]):=by
 have g:=z_fF w (Un [])
 refine z_ad (cx:=z_er w (Un [])) g z_ja rfl rfl (β:=Va.z) [.c (.v (.string (mkS [48])))] 0 [] [] rfl rfl (Sat.start rfl) ?_
 refine z_af (v:= .tuple #[.int .u64 ((0:Nat):Int),.nilIface]) (fun β w' hs=>z_tm w' (mkS [48]) 0 (by decide) (by decide)) ?_
 refine ⟨true,fun w=>z_rF (by kernel_rfl) _ _,?_⟩
 refine z_af (v:= .string (mkS [48])) (fun β w' hs=>by
  have h:=z_n4 w' 0 (by decide)
  rw [z_vs] at h
  exact h) ?_
 intro β w' hs
 exact hs.fin [] ⟨rfl,rfl⟩
end Go.Proofs.YtloeaiafphkjnaaGreatDoor.Sx
namespace Go.Proofs.YtloeaiafphkjnaaGreatDoor.Sx
open Go
section
variable {cx:Cx} {n:Nat} {H:List Bk} {F:List Fact} {env:Env}
end
end Go.Proofs.YtloeaiafphkjnaaGreatDoor.Sx
namespace Go.Proofs.YtloeaiafphkjnaaGreatDoor.Sx
open Go
def Reads:List Fact->Prop
 | []=>True
 | f::r=>f.own=false/\Reads r
theorem Reads.mem: ∀ {l:List Fact},Reads l-> ∀f∈l,f.own=false
 | f::r,h,g,hg=>by
  rcases List.mem_cons.1 hg with rfl | hg
  ·exact h.1
  ·exact h.2.mem g hg
section
variable {cx:Cx} {w:World}
theorem z_tP {Gs Rs:List Fact} (hm:Mem w (Gs++Rs)) (hR:Reads Rs) (hW:cx.W0=w) (hS:cx.S=Un Gs) (hbs:cx.bs=[]) (hr:cx.rnd=none) (hpn:cx.pn=[]):Sat cx Va.z 0 [] (Gs++Rs) w:=
 hm.sat0 hW (by rw [hS];exact ownIn hR.mem) hbs rfl rfl hr hpn
theorem z_d2 {f:FuncId} {fn:Func} {c:Code} {Gs:List Fact} {R:Value->List Fact->Prop} (g:Good cx) (hf:cx.P.funcs[f]?=some fn) (svs:List SV) (Rs:List Fact) (hm:Mem w (Gs++Rs))
  (hw:cwp cx c (fnPost cx fn.results.toList (Fin w Gs R)) 0 (pairs 0 svs) [] (Gs++Rs)) (hR:Reads Rs:=by first | exact trivial | exact ⟨rfl,trivial⟩ | exact ⟨rfl,rfl,trivial⟩ | exact ⟨rfl,rfl,rfl,trivial⟩ | exact ⟨rfl,rfl,rfl,rfl,trivial⟩ | exact ⟨rfl,rfl,rfl,rfl,rfl,trivial⟩)
  (hb:fn.body=some c:=by rfl) (hN:fn.ntmps=cx.N:=by rfl) (hlen:Nat.ble svs.length cx.N=true:=by rfl) (hltB:allLt 0 svs=true:=by rfl) (hW:cx.W0=w:=by rfl) (hS:cx.S=Un Gs:=by rfl) (hbs:cx.bs=[]:=by rfl) (hr:cx.rnd=none:=by rfl) (hpn:cx.pn=[]:=by rfl):
  Con cx.P f (svs.map (SV.val Va.z)).toArray w Gs R:=
 z_ad g hf hb hN svs 0 [] (Gs++Rs) hlen hltB (z_tP hm hR hW hS hbs hr hpn) hw hr rfl hpn
theorem z_lS {f:FuncId} {fn:Func} {c:Code} {Gs:List Fact} {R:Value->List Fact->Prop} (g:Good cx) (hf:cx.P.funcs[f]?=some fn) (svs:List SV) (Rs:List Fact) (hm:Mem w (Gs++Rs))
  (hw:Tri cx c (fnPost cx fn.results.toList (Fin w Gs R)) 0 (pairs 0 svs) [] (Gs++Rs)) (hR:Reads Rs:=by first | exact trivial | exact ⟨rfl,trivial⟩ | exact ⟨rfl,rfl,trivial⟩ | exact ⟨rfl,rfl,rfl,trivial⟩ | exact ⟨rfl,rfl,rfl,rfl,trivial⟩ | exact ⟨rfl,rfl,rfl,rfl,rfl,trivial⟩)
  (hb:fn.body=some c:=by rfl) (hN:fn.ntmps=cx.N:=by rfl) (hlen:Nat.ble svs.length cx.N=true:=by rfl) (hltB:allLt 0 svs=true:=by rfl) (hW:cx.W0=w:=by rfl) (hS:cx.S=Un Gs:=by rfl) (hbs:cx.bs=[]:=by rfl) (hr:cx.rnd=none:=by rfl) (hpn:cx.pn=[]:=by rfl):
  Con cx.P f (svs.map (SV.val Va.z)).toArray w Gs R:=
 z_dt g hf hb hN svs 0 [] (Gs++Rs) hlen hltB (z_tP hm hR hW hS hbs hr hpn) hw hr rfl hpn
end
end Go.Proofs.YtloeaiafphkjnaaGreatDoor.Sx
namespace Go.Proofs.YtloeaiafphkjnaaGreatDoor.Sx
open Go
attribute [local irreducible] Calls
def errF (g:Nat):Fact where
 own:=false
 D:=fun k=>k=g
 p:=fun w=> ∃ev,w.cell? ⟨g,0,none⟩=some ev/\(ev= .nilIface\/ ∃te pe,ev= .iface te pe)
 st:=fun w w' hs ⟨ev,h,h2⟩=>⟨ev,by rw [<-h];exact World.cell?_of_block (hs _ rfl),h2⟩
theorem z_jZ {w w':World} (h:RowKit.Below w.heap.size w w'):Chg None_ w w':=⟨h.os,h.tape,h.output,h.size,fun k hk _=>h.block k hk⟩
theorem z_qL {P:Program} {t:TypeId} (ht:isIf (P.underlying t)=true) (te:TypeId) (pv:Value) (w:World):(Op.equalIn Op.maxDepth t (.iface te pv) .nilIface).run P w= .ok false w:=by
 obtain ⟨ms,hm⟩: ∃ms,P.underlying t=some (.interface ms):=by
  unfold isIf at ht
  split at ht
  ·rename_i ms h;exact ⟨ms,h⟩
  ·cases ht
 rw [show Op.maxDepth=9999+1 from rfl]
 unfold Op.equalIn
 simp [run_underlying hm]
theorem z_tU {P:Program} {t:TypeId} (ht:isIf (P.underlying t)=true) (x:Operand) (te:TypeId) (pv:Value) (w:World):(binSem .neq t x (.const .nilIface) (.iface te pv) .nilIface).run P w= .ok (.bool true) w:=by
 simp [binSem,eqGuard,binOp,Op.equal,z_qL ht]
theorem z_vn {P:Program} {t:TypeId} (ht:isIf (P.underlying t)=true) (x:Operand) (te:TypeId) (pv:Value) (w:World):(binSem .eql t x (.const .nilIface) (.iface te pv) .nilIface).run P w= .ok (.bool false) w:=by
 simp [binSem,eqGuard,binOp,Op.equal,z_qL ht]
theorem z_sJ (w:World) (fn s:ByteArray) (hs:s.size<=1000000) (he:(errF 5).p w):Con Tryz.prog z_eY #[.string fn,.string s,.int .i64 10,.int .i64 64,.iface 237 (.int .i64 2)] w [] fun v Fs=>(∃te pv,v= .iface te pv)/\Fs=[]:=by
 obtain ⟨ev,h1,h2⟩:=he
 refine z_bm (Calls.mono (Tryz.strconv_toError_syntax fn s 10 64 ev w (by omega) h1 h2) ?_)
 rintro e w' ⟨N,rfl,_,_,hb⟩
 exact ⟨_,rfl,[],⟨⟨_,_,rfl⟩,rfl⟩,by rw [Un.nil];exact z_jZ hb,Mem.none _,trivial,fun _ h=>by cases h⟩
theorem z_sZ (w:World) (fn s:ByteArray) (hs:s.size<=1000000) (he:(errF 6).p w):Con Tryz.prog z_eY #[.string fn,.string s,.int .i64 10,.int .i64 64,.iface 237 (.int .i64 1)] w [] fun v Fs=>(∃te pv,v= .iface te pv)/\Fs=[]:=by
 obtain ⟨ev,h1,h2⟩:=he
 refine z_bm (Calls.mono (Tryz.strconv_toError_range fn s 10 64 ev w (by omega) h1 h2) ?_)
 rintro e w' ⟨N,rfl,_,_,hb⟩
 exact ⟨_,rfl,[],⟨⟨_,_,rfl⟩,rfl⟩,by rw [Un.nil];exact z_jZ hb,Mem.none _,trivial,fun _ h=>by cases h⟩
theorem z_lH (w:World) (t:ByteArray) (ht:t.size<=1000000):Pu Tryz.prog z_a9 #[.string t,.int .i64 10,.int .i64 64] w (Lib.uintTupleM 237 18446744073709551615 (Lib.parseUintB 64 t.data.toList)):=by
 refine pu_of (Calls.mono (Tryz.internal_strconv_ParseUint_10_at64 t (by omega) w) ?_)
 rintro e w' ⟨rfl,hw⟩
 refine ⟨_,rfl,rfl,?_⟩
 rcases hw with rfl | rfl
 ·exact Chg.refl _ _
 ·exact ⟨rfl,rfl,rfl,by rw [Lib.bytesWorld_size];omega,fun k hk _=>Lib.bytesWorld_at_old w _ t k hk⟩
def noNum (v:Value):Prop:= ∃(n:Nat) (te:TypeId) (pv:Value),v= .tuple #[.int .u64 (n:Int),.iface te pv]
theorem z_rR (w:World) (t:ByteArray) (ht:t.size<=1000000) (hm:Mem w [errF 5,errF 6]):Con Tryz.prog z_bM #[.string t,.int .i64 10,.int .i64 64] w [] fun v Fs=>
  ((∃u,Lib.parseUintB 64 t.data.toList= .ok u/\v= .tuple #[.int .u64 (u:Int),.nilIface])\/((∀u,Lib.parseUintB 64 t.data.toList≠ .ok u)/\noNum v))/\Fs=[]:=by
 have g:=z_ck w (Un [])
 refine z_d2 (cx:=z_bC w (Un [])) g z_dH [.c (.v (.string t)),.c (.v (.int .i64 10)),.c (.v (.int .i64 64))] [errF 5,errF 6] hm ?_
 obtain ⟨r,hr⟩: ∃r,Lib.parseUintB 64 t.data.toList=r:=⟨_,rfl⟩
 rcases r with u | _ | _
 ·refine z_af (v:= .tuple #[.int .u64 (u:Int),.nilIface]) (fun β w' hs=>by
   have h:=z_lH w' t ht
   rw [hr] at h
   exact h) ?_
  refine ⟨false,fun w=>z_rM (by kernel_rfl) _ _,?_⟩
  intro β w' hs
  exact (hs.fin [] ⟨.inl ⟨u,hr,rfl⟩,rfl⟩)
 ·refine z_af (v:= .tuple #[.int .u64 0,.iface 237 (.int .i64 2)]) (fun β w' hs=>by
   have h:=z_lH w' t ht
   rw [hr] at h
   exact h) ?_
  refine ⟨true,fun w=>z_tU (by kernel_rfl) _ _ _ _,?_⟩
  refine z_ac [] (fun β w' hs=>z_sJ w' _ t ht (hs.get 0 rfl)) ?_
  rintro v Fs ⟨⟨te,pv,rfl⟩,rfl⟩
  intro β w' hs
  exact hs.fin [] ⟨.inr ⟨(fun u h=>(by rw [hr] at h;cases h)),0,te,pv,rfl⟩,rfl⟩
 ·refine z_af (v:= .tuple #[.int .u64 18446744073709551615,.iface 237 (.int .i64 1)]) (fun β w' hs=>by
   have h:=z_lH w' t ht
   rw [hr] at h
   exact h) ?_
  refine ⟨true,fun w=>z_tU (by kernel_rfl) _ _ _ _,?_⟩
  refine z_ac [] (fun β w' hs=>z_sZ w' _ t ht (hs.get 1 rfl)) ?_
  rintro v Fs ⟨⟨te,pv,rfl⟩,rfl⟩
  intro β w' hs
  exact hs.fin [] ⟨.inr ⟨(fun u h=>(by rw [hr] at h;cases h)),18446744073709551615,te,pv,rfl⟩,rfl⟩
def numOk (t:ByteArray) (u:Nat):Prop:=Lib.parseUintB 64 t.data.toList= .ok u/\decimS u=t
theorem z_kY (w:World) (t:ByteArray) (Q:Fact) (hQ:Q.own=false) (ht:t.size<=1000000) (hdec: ∀(w:World) (u:Nat),Q.p w->u<18446744073709551616->Pu Tryz.prog z_dv #[.int .u64 (u:Int)] w (.string (decimS u)))
  (hm:Mem w [errF 5,errF 6,Q]):Con Tryz.prog z_ff #[.string t] w [] fun v Fs=>(∃(n:Nat) (b:Bool),v= .tuple #[.int .u64 (n:Int),.bool b]/\((b=true/\numOk t n)\/(b=false/\ ∀u,¬numOk t u)))/\Fs=[]:=by
 have g:=z_fF w (Un [])
 refine z_d2 (cx:=z_er w (Un [])) g z_ja [.c (.v (.string t))] [errF 5,errF 6,Q] hm ?_ ⟨rfl,rfl,hQ,trivial⟩
 refine z_ac [] (fun β w' hs=>z_rR w' t ht (hs.mem.take (js:=[0,1]) rfl)) ?_
 rintro v Fs ⟨⟨u,hu,rfl⟩ | ⟨hu,n,te,pv,rfl⟩,rfl⟩
 ·refine ⟨true,fun w=>z_rF (by kernel_rfl) _ _,?_⟩
  have hb:=Lib.parseUintB_le hu
  refine z_af (v:= .string (decimS u)) (fun β w' hs=>hdec w' u (hs.get 2 rfl) (by omega)) ?_
  intro β w' hs
  refine hs.fin [] ⟨⟨u,decide (decimS u=t),rfl,?_⟩,rfl⟩
  by_cases h:decimS u=t
  ·exact .inl ⟨by simp [h],hu,h⟩
  ·refine .inr ⟨by simp [h],fun u' hu'=>h ?_⟩
   have:=hu.symm.trans hu'.1
   injection this with this
   rw [this]
   exact hu'.2
 ·refine ⟨false,fun w=>z_vn (by kernel_rfl) _ _ _ _,?_⟩
  intro β w' hs
  exact hs.fin [] ⟨⟨n,false,rfl,.inr ⟨rfl,fun u h=>hu u h.1⟩⟩,rfl⟩
theorem z_oZ: ∀(l:List UInt8) (a k:Nat),a<10^k->k+l.length<=18->l.all isD=true->Lib.parseUintM (2^64 - 1) a l= .ok (l.foldl (fun n c=>10*n+(c.toNat - 48)) a)
 | [],_,_,_,_,_=>rfl
 | c::r,a,k,ha,hl,h=>by
  simp only [List.all_cons,Bool.and_eq_true] at h
  have hc:48<=c.toNat/\c.toNat<=57:=by simpa [isD] using h.1
  simp only [List.length_cons] at hl
  have hk:(10:Nat)^k<=10^17:=Nat.pow_le_pow_right (by decide) (by omega)
  have h17:(10:Nat)^17=100000000000000000:=by decide
  rw [h17] at hk
  unfold Lib.parseUintM
  rw [if_pos hc,if_neg (by omega),if_neg (by omega),z_oZ r _ (k+1) (by rw [Nat.pow_succ];omega) (by omega) h.2]
  rw [List.foldl_cons,Nat.mul_comm a 10]
theorem z_mF: ∀(n u:Nat),u<=n->(Lib.decDigits u).all isD=true/\valD (Lib.decDigits u)=u/\Lib.decDigits u≠[]/\((Lib.decDigits u).length=1\/(Lib.decDigits u).head?≠some 48)
 | n,u,hn=>by
  unfold Lib.decDigits
  by_cases h:u<10
  ·rw [dif_pos h]
   have ht:(UInt8.ofNat (48+u)).toNat=48+u:=by rw [UInt8.toNat_ofNat'];omega
   refine ⟨?_,?_,by simp,.inl rfl⟩
   ·simp only [List.all_cons,List.all_nil,Bool.and_true,isD]
    exact decide_eq_true (by omega)
   ·show 10*0+((UInt8.ofNat (48+u)).toNat - 48)=u
    omega
  ·rw [dif_neg h]
   cases n with
   | zero=>omega
   | succ n=>
    obtain ⟨h1,h2,h3,h4⟩:=z_mF n (u/10) (by omega)
    have ht:(UInt8.ofNat (48+u%10)).toNat=48+u%10:=by rw [UInt8.toNat_ofNat'];omega
    refine ⟨?_,?_,by simp,?_⟩
    ·rw [List.all_append,h1]
     simp only [List.all_cons,List.all_nil,Bool.and_true,Bool.true_and,isD]
     exact decide_eq_true (by omega)
    ·rw [z_kX,h2];omega
    ·right
     have hh: ∀x:List UInt8,(Lib.decDigits (u/10)++x).head?=(Lib.decDigits (u/10)).head?:=fun x=>by
      cases e:Lib.decDigits (u/10) with
      | nil=>exact absurd e h3
      | cons a t=>rfl
     rw [hh]
     rcases h4 with h4 | h4
     ·intro q
      obtain ⟨c,hc⟩:=List.length_eq_one_iff.1 h4
      rw [hc] at q h2
      have hq:c=48:=Option.some.inj q
      subst hq
      have:valD [48]=0:=rfl
      omega
     ·exact h4
theorem z_rq: ∀(n:Nat) (l:List UInt8),l.length=n->l.all isD=true->l≠[]->(l.length=1\/l.head?≠some 48)->Lib.decDigits (valD l)=l
 | n,l,hn,hd,hne,hh=>by
  obtain ⟨r,c,e⟩: ∃r c,l=r++[c]:=⟨l.dropLast,l.getLast hne,(List.dropLast_concat_getLast hne).symm⟩
  subst e
  rw [List.all_append] at hd
  simp only [List.all_cons,List.all_nil,Bool.and_true,Bool.and_eq_true] at hd
  have hc:48<=c.toNat/\c.toNat<=57:=by simpa [isD] using hd.2
  have hcu:UInt8.ofNat (48+(c.toNat - 48))=c:=by
   rw [show 48+(c.toNat - 48)=c.toNat by omega]
   simp
  rw [z_kX]
  cases r with
  | nil=>
   unfold Lib.decDigits
   rw [dif_pos (by show 10*0+_<10;omega)]
   show [UInt8.ofNat (48+(10*0+(c.toNat - 48)))]=[c]
   rw [Nat.mul_zero,Nat.zero_add,hcu]
  | cons a t=>
   have ha:a≠48:=by
    rcases hh with q | q
    ·simp at q
    ·intro e;exact q (by rw [e];rfl)
   cases n with
   | zero=>simp at hn
   | succ n=>
    have ih:=z_rq n (a::t) (by simp at hn ⊢;omega) hd.1 (by simp) (.inr (fun q=>ha (Option.some.inj q)))
    have hpos:1<=valD (a::t):=by
     by_cases h0:valD (a::t)=0
     ·rw [h0] at ih
      have:Lib.decDigits 0=[48]:=by decide+kernel
      rw [this] at ih
      injection ih with q _
      exact absurd q.symm ha
     ·omega
    unfold Lib.decDigits
    rw [dif_neg (by omega),show (10*valD (a::t)+(c.toNat - 48))/10=valD (a::t) by omega,ih,show (10*valD (a::t)+(c.toNat - 48))%10=c.toNat - 48 by omega,hcu]
theorem z_mw: ∀(k u:Nat),u<10^(k+1)->(Lib.decDigits u).length<=k+1
 | 0,u,h=>by
  unfold Lib.decDigits
  rw [dif_pos (by simpa using h)]
  exact Nat.le_refl _
 | k+1,u,h=>by
  unfold Lib.decDigits
  by_cases h10:u<10
  ·rw [dif_pos h10];simp
  ·rw [dif_neg h10,List.length_append]
   have:=z_mw k (u/10) (by rw [Nat.pow_succ] at h;omega)
   show _+1<=_
   omega
theorem z_tx {s:List UInt8} {u:Nat} (h:rnum s=some u):numOk (mkS s) u:=by
 unfold rnum at h
 split at h
 ·rename_i q
  obtain ⟨h1,h2,h3,h4⟩:=q
  obtain rfl:=Option.some.inj h
  refine ⟨?_,?_⟩
  ·rw [mkSo]
   unfold Lib.parseUintB
   rw [if_neg h3,z_oZ s 0 0 (by decide) (by omega) h1]
   rfl
  ·show (⟨(Lib.decDigits (valD s)).toArray⟩:ByteArray)=mkS s
   rw [z_rq _ s rfl h1 h3 h4]
   rfl
 ·cases h
theorem z_sF {s:List UInt8} {u:Nat} (h:numOk (mkS s) u) (hu:u<10^18):rnum s=some u:=by
 have e:Lib.decDigits u=s:=mkS1 (show mkS (Lib.decDigits u)=mkS s from h.2)
 obtain ⟨h1,h2,h3,h4⟩:=z_mF u u (Nat.le_refl _)
 have hl:=z_mw 17 u hu
 rw [e] at h1 h2 h3 h4 hl
 unfold rnum
 rw [if_pos ⟨h1,hl,h3,h4⟩,h2]
def jn (d:UInt8):List (List UInt8)->List UInt8
 | []=>[]
 | a::r=>match r with
  | []=>a
  | _::_=>a++d::jn d r
theorem z_ma (d:UInt8) (a b:List UInt8) (r:List (List UInt8)):jn d (a::b::r)=a++d::jn d (b::r):=rfl
theorem z_nk (d:UInt8): ∀L:List (List UInt8),Lib.join L [d]=jn d L
 | []=>rfl
 | [a]=>Lib.join_one a [d]
 | a::b::r=>by
  have ih:=z_nk d (b::r)
  rw [z_ma,<-ih,Lib.join_cons,Lib.join_cons]
  simp [Lib.joinTail]
theorem z_rh (d:UInt8): ∀L:List (List UInt8),L≠[]->(∀x∈L,d∉x)->splL d (jn d L)=L
 | [],h,_=>absurd rfl h
 | [a],_,h=>z_bi (h a (by simp))
 | a::b::r,_,h=>by
  rw [z_ma,z_ih _ (h a (by simp)),z_rh d (b::r) (by simp) (fun x hx=>h x (List.mem_cons_of_mem _ hx))]
theorem z_oB {d e:UInt8} (hde:e≠d): ∀L:List (List UInt8),(∀x∈L,e∉x)->e∉jn d L
 | [],_=>by simp [jn]
 | [a],h=>h a (by simp)
 | a::b::r,h=>by
  rw [z_ma]
  have ih:=z_oB hde (b::r) (fun x hx=>h x (List.mem_cons_of_mem _ hx))
  have ha:=h a (by simp)
  intro q
  rcases List.mem_append.1 q with q | q
  ·exact ha q
  ·rcases List.mem_cons.1 q with q | q
   ·exact hde q
   ·exact ih q
def catL (L:List (List UInt8)):List UInt8:=L.flatMap (· ++[10])
theorem z_dQ (a:List UInt8) (L:List (List UInt8)):catL (a::L)=a++10::catL L:=by simp [catL]
theorem z_i4 (a b:List (List UInt8)):catL (a++b)=catL a++catL b:=by simp [catL]
theorem z_oH: ∀(L:List (List UInt8)) (r:List UInt8),(∀x∈L,(10:UInt8)∉x)->lnL (catL L++r)=L++lnL r
 | [],r,_=>rfl
 | a::L,r,h=>by
  rw [z_dQ,List.append_assoc,List.cons_append,z_qD _ (h a (by simp)),z_oH L r (fun x hx=>h x (List.mem_cons_of_mem _ hx)),List.cons_append]
theorem z_qv: ∀(n:Nat) (b:List UInt8),b.length<=n->(b=[]\/b.getLast?=some 10)->catL (lnL b)=b/\ ∀x∈lnL b,(10:UInt8)∉x
 | n,b,hn,hb=>by
  by_cases h0:b=[]
  ·subst h0;exact ⟨rfl,fun x h=>by cases h⟩
  have hl:b.getLast?=some 10:=hb.resolve_left h0
  have hm:(10:UInt8)∈b:=List.mem_of_getLast? hl
  have hs:=z_g3 hm
  have hlen:=congrArg List.length hs
  simp only [List.length_append,List.length_cons] at hlen
  cases n with
  | zero=>exact absurd (List.length_eq_zero_iff.1 (Nat.le_zero.1 hn)) h0
  | succ n=>
   have ih:=z_qv n (hdB 10 b) (by omega) (by
    by_cases hq:hdB 10 b=[]
    ·exact .inl hq
    ·right
     rw [hs,List.getLast?_append,List.getLast?_cons] at hl
     cases hk:(hdB 10 b).getLast? with
     | none=>exact absurd (List.getLast?_eq_none_iff.1 hk) hq
     | some y=>rw [hk] at hl;simpa using hl)
   rw [z_po h0,z_dQ,ih.1]
   refine ⟨hs.symm,fun x hx=>?_⟩
   rcases List.mem_cons.1 hx with rfl | hx
   ·exact z_iY 10 b
   ·exact ih.2 x hx
def lastW:List UInt8:=[108,97,115,116]
def tenW:List UInt8:=[116,101,110,97,110,116]
def userW:List UInt8:=[117,115,101,114]
def onW:List UInt8:=[111,110]
def offW:List UInt8:=[111,102,102]
def rolB (l:List ByteArray):List UInt8:=if l=[] then [45] else jn 44 (l.map fun r=>r.data.toList)
def stW (b:Bool):List UInt8:=if b=true then offW else onW
def wdsU (c:ACrd):List (List UInt8):=[userW,hexB c.user.data.toList,Lib.decDigits c.gen,stW c.revoked,Lib.decDigits c.sec.iter.toNat,encS false c.sec.salt,encS false c.sec.stored,encS false c.sec.server,encS false c.sec.ha1,rolB c.roles]
def lnU (c:ACrd):List UInt8:=jn 32 (wdsU c)
def lnT (t:ByteArray):List UInt8:=tenW++32::t.data.toList
def lnN (n:Nat):List UInt8:=lastW++32::Lib.decDigits n
def bodyA (X:ASto):List (List UInt8):=lnN X.last::(sortK (X.ts.map (·.1))).flatMap fun t=>lnT t::(usL ((aten X.ts t).getD [])).map lnU
def bodyR (Y:RA):List (List UInt8):=lnN Y.last::Y.ts.flatMap fun t=>lnT t::(inTA Y.cs t).map lnU
theorem z_vX {X:ASto} {Y:RA} (h:Jn X Y) (t:ByteArray):usL ((aten X.ts t).getD [])=inTA Y.cs t:=by
 cases ht:aten X.ts t with
 | none=>
  have:inTA Y.cs t=[]:=by
   unfold inTA
   refine List.filter_eq_nil_iff.2 fun c hc q=>?_
   obtain ⟨us,h1,_⟩:=h.mem hc
   rw [of_decide_eq_true q,ht] at h1
   cases h1
  rw [this]
  exact List.perm_nil.1 (z_jb (us:=[]) List.nodup_nil)
 | some us=>
  show usL us=_
  obtain ⟨A,B,e,_⟩:=z_eQ ht
  have hp:(t,us)∈X.ts:=by rw [e];simp
  have hw:=h.tw _ hp
  refine List.Perm.eq_of_pairwise (le:=fun a b=>tlt a.user b.user) (fun _ _ _ _ q1 q2=>absurd q2 (z_iC q1)) (z_sa hw.nd) ?_ ?_
  ·have hp2:(inTA Y.cs t).Pairwise kl:=h.csr.sublist List.filter_sublist
   refine List.Pairwise.imp_of_mem (fun {a b} ha hb q=>?_) hp2
   have h1:a.tenant=t:=of_decide_eq_true (List.mem_filter.1 ha).2
   have h2:b.tenant=t:=of_decide_eq_true (List.mem_filter.1 hb).2
   rcases q with q | q
   ·rw [h1,h2] at q;exact absurd q (z_bU _)
   ·exact q.2
  ·refine (z_jb hw.nd).trans ?_
   have hn:=h.nd
   rw [e,List.map_append,List.map_cons,List.nodup_append,List.nodup_cons] at hn
   obtain ⟨n1,⟨n2,n3⟩,n4⟩:=hn
   have e2:(X.ts.flatMap (·.2)).filter (fun c=>decide (c.tenant=t))=us:=by
    have out: ∀ps:ATs,(∀p∈ps,p∈X.ts/\p.1≠t)->(ps.flatMap (·.2)).filter (fun c=>decide (c.tenant=t))=[]:=fun ps hps=>List.filter_eq_nil_iff.2 fun c hc q=>by
     obtain ⟨p,hp,hcp⟩:=List.mem_flatMap.1 hc
     exact (hps p hp).2 (((h.tw p (hps p hp).1).cs c hcp).t.symm.trans (of_decide_eq_true q))
    have inn:us.filter (fun c=>decide (c.tenant=t))=us:=List.filter_eq_self.2 fun c hc=>decide_eq_true (hw.cs c hc).t
    rw [e,List.flatMap_append,List.flatMap_cons,List.filter_append,List.filter_append,inn,out A,out B]
    ·simp
    ·exact fun p hp=>⟨by rw [e];simp [hp],fun q=>n2 (q▸List.mem_map.2 ⟨p,hp,rfl⟩)⟩
    ·exact fun p hp=>⟨by rw [e];simp [hp],fun q=>n4 _ (List.mem_map.2 ⟨p,hp,rfl⟩) t List.mem_cons_self q⟩
   have:=(h.csp.filter (fun c=>decide (c.tenant=t))).symm
   rw [e2] at this
   exact this
theorem Jn.body {X:ASto} {Y:RA} (h:Jn X Y):bodyA X=bodyR Y:=by
 unfold bodyA bodyR
 rw [h.names,h.last]
 congr 1
 have:(fun t=>lnT t::(usL ((aten X.ts t).getD [])).map lnU)=fun t=>lnT t::(inTA Y.cs t).map lnU:=funext fun t=>by rw [z_vX h]
 rw [this]
theorem z_oa (d:UInt8) (hd:isD d=false/\ ¬(97<=d.toNat/\d.toNat<=102)): ∀l:List UInt8,d∉hexB l:=by
 have key: ∀k:Nat,k<16->dgs.getD k 0≠d:=by
  intro k hk e
  have h: ∀k:Nat,k<16->isD (dgs.getD k 0)=true\/(97<=(dgs.getD k 0).toNat/\(dgs.getD k 0).toNat<=102):=by decide
  rcases h k hk with q | q
  ·rw [e,hd.1] at q;cases q
  ·rw [e] at q;exact hd.2 q
 intro l
 induction l with
 | nil=>simp [hexB]
 | cons x r ih=>
  have hx:=x.toNat_lt
  show d∉dgs.getD (x.toNat/16) 0::dgs.getD (x.toNat%16) 0::hexB r
  simp only [List.mem_cons,not_or]
  exact ⟨fun q=>key _ (by omega) q.symm,fun q=>key _ (by omega) q.symm,ih⟩
theorem z_iz (d:UInt8) (hd:isD d=false) (u:Nat):d∉Lib.decDigits u:=fun h=>by
 have:=List.all_eq_true.1 (z_mF u u (Nat.le_refl _)).1 d h
 rw [hd] at this
 cases this
theorem z_ks (d:UInt8) (hd:runC d=false) (he:d≠61) (p:List UInt8):d∉encS false p:=by
 intro h
 rcases List.mem_append.1 h with h | h
 ·have h1:runC d=true:=z_sw false p d h
  rw [hd] at h1
  cases h1
 ·exact he (List.eq_of_mem_replicate h)
theorem z_g1 (d:UInt8) (hd:okc d=false) {t:List UInt8} (h:plainF t=true):d∉t:=by
 unfold plainF at h
 rw [Bool.and_eq_true] at h
 intro q
 have:=List.all_eq_true.1 h.1 d q
 rw [hd] at this
 cases this
theorem z_sI (d:UInt8) (hd:okc d=false) (h44:d≠44) (h45:d≠45) {l:List ByteArray} (h:allPl l=true):d∉rolB l:=by
 unfold rolB
 split
 ·simpa using h45
 ·refine z_oB h44 _ fun x hx=>?_
  obtain ⟨r,hr,rfl⟩:=List.mem_map.1 hx
  exact z_g1 d hd (List.all_eq_true.1 h r hr)
theorem z_pC (d:UInt8) (hd:d=32\/d=10) {c:ACrd} (h:allPl c.roles=true): ∀x∈wdsU c,d∉x:=by
 intro x hx
 simp only [wdsU,List.mem_cons,List.not_mem_nil,or_false] at hx
 have hst:d∉stW c.revoked:=by
  unfold stW
  rcases hd with rfl | rfl<;>split<;>decide
 rcases hx with rfl | rfl | rfl | rfl | rfl | rfl | rfl | rfl | rfl | rfl
 ·rcases hd with rfl | rfl<;>decide
 ·exact z_oa d (by rcases hd with rfl | rfl<;>decide) _
 ·exact z_iz d (by rcases hd with rfl | rfl<;>decide) _
 ·exact hst
 ·exact z_iz d (by rcases hd with rfl | rfl<;>decide) _
 ·exact z_ks d (by rcases hd with rfl | rfl<;>decide) (by rcases hd with rfl | rfl<;>decide) _
 ·exact z_ks d (by rcases hd with rfl | rfl<;>decide) (by rcases hd with rfl | rfl<;>decide) _
 ·exact z_ks d (by rcases hd with rfl | rfl<;>decide) (by rcases hd with rfl | rfl<;>decide) _
 ·exact z_ks d (by rcases hd with rfl | rfl<;>decide) (by rcases hd with rfl | rfl<;>decide) _
 ·exact z_sI d (by rcases hd with rfl | rfl<;>decide) (by rcases hd with rfl | rfl<;>decide) (by rcases hd with rfl | rfl<;>decide) h
theorem z_sg {c:ACrd} (h:allPl c.roles=true):splL 32 (lnU c)=wdsU c:=z_rh 32 _ (by simp [wdsU]) (z_pC 32 (.inl rfl) h)
theorem z_sl {c:ACrd} (h:allPl c.roles=true):(10:UInt8)∉lnU c:=z_oB (by decide) _ (z_pC 10 (.inr rfl) h)
theorem z_td {t:ByteArray} (h:plainF t.data.toList=true):(10:UInt8)∉lnT t:=by
 unfold lnT
 have:=z_g1 10 (by decide) h
 intro q
 rcases List.mem_append.1 q with q | q
 ·exact absurd q (by decide)
 ·rcases List.mem_cons.1 q with q | q
  ·exact absurd q (by decide)
  ·exact this q
theorem z_oo {t:ByteArray} (h:plainF t.data.toList=true):splL 32 (lnT t)=[tenW,t.data.toList]:=by
 unfold lnT
 rw [z_ih _ (by decide),z_bi (z_g1 32 (by decide) h)]
theorem z_s6 (n:Nat):(10:UInt8)∉lnN n:=by
 unfold lnN
 have:=z_iz 10 (by decide) n
 intro q
 rcases List.mem_append.1 q with q | q
 ·exact absurd q (by decide)
 ·rcases List.mem_cons.1 q with q | q
  ·exact absurd q (by decide)
  ·exact this q
theorem z_q0 (n:Nat):splL 32 (lnN n)=[lastW,Lib.decDigits n]:=by
 unfold lnN
 rw [z_ih _ (by decide),z_bi (z_iz 32 (by decide) n)]
def triL:List UInt8->List (List UInt8)
 | a::b::c::r=>[a,b,c]::triL r
 | []=>[]
 | l=>[l]
theorem z_qW: ∀(p:List UInt8),∀q∈triL p,1<=q.length/\q.length<=3
 | [],q,h=>by cases h
 | [a],q,h=>by
  obtain rfl:q=[a]:=by simpa [triL] using h
  exact ⟨by simp,by simp⟩
 | [a,b],q,h=>by
  obtain rfl:q=[a,b]:=by simpa [triL] using h
  exact ⟨by simp,by simp⟩
 | a::b::c::r,q,h=>by
  rcases List.mem_cons.1 h with rfl | h
  ·exact ⟨by simp,by simp⟩
  ·exact z_qW r q h
theorem z_o2 {p:List UInt8} (h:p≠[]):triL p=p.take 3::triL (p.drop 3):=by
 match p,h with
 | [a],_=>rfl
 | [a,b],_=>rfl
 | a::b::c::r,_=>rfl
def trV (p:List UInt8):Nat->Nat
 | 0=>0
 | j+1=>trV p j*256+(p.getD j 0).toNat
theorem z_t3 (p:List UInt8): ∀j,trV p j<256^j
 | 0=>Nat.one_pos
 | j+1=>by
  have:=z_t3 p j
  have h:=(p.getD j 0).toNat_lt
  rw [trV,Nat.pow_succ]
  omega
theorem z_uR {p:List UInt8} {j:Nat} (h:p.length<=j):trV p (j+1)=trV p j*256:=by
 rw [trV,List.getD_eq_getElem?_getD,List.getElem?_eq_none h]
 exact Nat.add_zero _
theorem z_vb: ∀ {p:List UInt8} {i:Nat},p.length<=3->1<=p.length->i<p.length+1->(encG p)[i]?=some (trV p 3/64^(3 - i)%64)
 | [x],i,_,_,h=>by
  have hx:=x.toNat_lt
  match i,h with
  | 0,_=>simp [encG,trV];omega
  | 1,_=>simp [encG,trV];omega
 | [x,y],i,_,_,h=>by
  have hx:=x.toNat_lt
  have hy:=y.toNat_lt
  match i,h with
  | 0,_=>simp [encG,trV];omega
  | 1,_=>simp [encG,trV];omega
  | 2,_=>simp [encG,trV];omega
 | [x,y,z],i,_,_,h=>by
  have hx:=x.toNat_lt
  have hy:=y.toNat_lt
  have hz:=z.toNat_lt
  match i,h with
  | 0,_=>simp [encG,trV];omega
  | 1,_=>simp [encG,trV];omega
  | 2,_=>simp [encG,trV];omega
  | 3,_=>simp [encG,trV];omega
theorem z_s9 {p:List UInt8} (h3:p.length<=3) (h1:1<=p.length):(encG p).length=p.length+1:=by
 rw [z_i9]
 omega
theorem shr64 {X i:Nat} (hi:i<=3):(X:Int).fdiv (2^min (6*(i:Int)).toNat IntKind.i64.bits)=((X/64^i:Nat):Int):=by
 rw [show (6*(i:Int)).toNat=6*i by omega,show min (6*i) IntKind.i64.bits=6*i from Nat.min_eq_left (by show _<=64;omega),show ((2:Int)^(6*i))=((64^i:Nat):Int) by rw [show (64:Nat)=2^6 from rfl,<-Nat.pow_mul];simp]
 rw [Int.fdiv_eq_ediv_of_nonneg _ (Int.natCast_nonneg _)]
 rfl
theorem cutZ {A:Option Addr} {c s:Nat}:cutA A c 0 s=A:=by
 cases A<;>simp [cutA,Addr.add]
structure Lies (A A':Option Addr) (p p':List UInt8):Prop where
 rd: ∀w,Bs w A p->Bs w A' p'
 d: ∀k,(bsF A' p').D k->(bsF A p).D k
theorem Lies.trans {A A' A'':Option Addr} {p p' p'':List UInt8} (h:Lies A A' p p') (h2:Lies A' A'' p' p''):Lies A A'' p p'':=⟨fun w q=>h2.rd w (h.rd w q),fun k q=>h.d k (h2.d k q)⟩
theorem Lies.refl (A:Option Addr) (p:List UInt8):Lies A A p p:=⟨fun _ q=>q,fun _ q=>q⟩
theorem Lies.drop {A:Option Addr} {p:List UInt8} {c n:Nat} (hc:p.length<=c) (hn:n<=p.length):Lies A (cutA A c n 1) p (p.drop n):=
 ⟨fun w q=>Bs.cutB q hc hn (Nat.le_refl _) (List.take_of_length_le (by rw [List.length_drop];exact Nat.le_refl _)),fun k hk=>cut_D (by rw [List.length_drop];omega) hk⟩
theorem Lies.take (A:Option Addr) (p:List UInt8) (n:Nat):Lies A A p (p.take n):=by
 refine ⟨fun w q=>?_,fun k hk=>?_⟩
 ·have h:=Bs.cutB (i:=0) (j:=min n p.length) q (Nat.le_refl _) (Nat.zero_le _) (Nat.min_le_right _ _) (by rw [List.drop_zero,Nat.sub_zero,<-List.take_eq_take_min])
  rwa [cutZ] at h
 ·have h:(bsF (cutA A 1 0 1) (p.take n)).D k:=by rw [cutZ];exact hk
  exact cut_D (by rw [List.length_take];omega) h
def AlphE (al:ByteArray) (url:Bool):Prop:= ∀n,n<64->al.data.toList[n]?=some (letA url n)
theorem z_tk (w:World) (al:ByteArray) (url:Bool) (hal:AlphE al url) (A:Option Addr) (p:List UInt8) (c:Nat) (h1:1<=p.length) (h3:p.length<=3) (hm:Mem w [bsF A p]):
  Con Tryz.prog z_jP #[.string al,.slice A p.length c] w [] fun v Fs=> ∃A c,v= .slice A (b64L url p).length c/\(b64L url p).length<=c/\Fs=[browF z_ab A (b64L url p) c]:=by
 have g:=z_kO w (Un [])
 have hml:=z_ag
 have hr:Bs w A p:=hm.fact (bsF A p) (by simp)
 obtain ⟨ad,hA⟩:=Bs.addr hr (by omega)
 refine z_d2 (cx:=z_io w (Un [])) g z_n6 [.c (.v (.string al)),.c (.v (.slice A p.length c))] [bsF A p] hm ?_
 refine z_ai (ι:=Nat) 0 (fun j=>[(0,.c (.v (.string al))),(1,.c (.v (.slice A p.length c))),(5,.c (.v (.int .i64 (trV p j:Int)))),(9,.c (.v (.int .i64 (j:Int))))]) (fun _=>[]) (fun _=>[bsF A p]) (fun j=>j<=3) (fun j=>3 - j) (0:Nat) (Nat.zero_le _) (Ent.mk' ⟨rfl,rfl,rfl,rfl,trivial⟩ rfl (fun β w' hs=>hs)) g ?_
 intro j hj
 have hv:trV p j<16777216:=Nat.lt_of_lt_of_le (z_t3 p j) (show 256^j<=256^3 from Nat.pow_le_pow_right (by decide) hj)
 refine BIf.dec (fun hlt=>?_) (fun hge=>?_)
 ·have hlt0:(j:Int)<3:=hlt
  refine ⟨by decide,_,z_uO (by omega),?_⟩
  refine BIf.dec (fun hl=>?_) (fun hl=>?_)
  ·have hl0:(j:Int)<(p.length:Int):=hl
   obtain ⟨x,hx,_⟩:=at_lt (l:=p) (k:=j) (by omega)
   have hxl:=x.toNat_lt
   have hnx:trV p (j+1)=trV p j*256+x.toNat:=by rw [trV,List.getD_eq_getElem?_getD,hx];rfl
   refine ⟨ad,j,hA,rfl,by omega,byte x,fun β w' hs=>Rd.cell1 (show Rd 1 (some ad) p.length (p.map byte) w' from hA▸hs.get 0 rfl) (by rw [List.getElem?_map,hx];rfl),?_⟩
   refine ⟨(x.toNat:Int),by rw [wrap_i64 (by omega) (by omega)],?_⟩
   refine ⟨_,z_vD (by omega) (by omega),?_⟩
   refine ⟨((j+1:Nat):Int),by rw [wrap_i64 (by omega) (by omega)];rfl,?_⟩
   exact ⟨j+1,by show j+1<=3;omega,by show 3 - (j+1)<3 - j;omega,Ent.mk' ⟨rfl,rfl,by rw [hnx];rfl,rfl,trivial⟩ rfl (fun β w' hs=>hs)⟩
  ·have hl0: ¬(j:Int)<(p.length:Int):=hl
   refine ⟨((j+1:Nat):Int),by rw [wrap_i64 (by omega) (by omega)];rfl,?_⟩
   exact ⟨j+1,by show j+1<=3;omega,by show 3 - (j+1)<3 - j;omega,Ent.mk' ⟨rfl,rfl,by rw [z_uR (by omega)];rfl,rfl,trivial⟩ rfl (fun β w' hs=>hs)⟩
 ·have hge0: ¬(j:Int)<3:=hge
  obtain rfl:j=3:=by omega
  have hl3:=z_s9 h3 h1
  have hbl:(b64L url p).length=p.length+1:=by unfold b64L;rw [List.length_map,hl3]
  refine ⟨((p.length+1:Nat):Int),by rw [wrap_i64 (by omega) (by omega)];rfl,?_⟩
  refine z_ai (ι:=Nat×Option Addr×Nat) 0 (fun i=>[(0,.c (.v (.string al))),(5,.c (.v (.int .i64 (trV p 3:Int)))),(7,.c (.v (.slice i.2.1 ((b64L url p).take i.1).length i.2.2))),(28,.c (.v (.int .i64 ((p.length+1:Nat):Int)))),(29,.c (.v (.int .i64 (i.1:Int))))]) (fun _=>[]) (fun i=>[browF z_ab i.2.1 ((b64L url p).take i.1) i.2.2])
   (fun i=>i.1<=p.length+1) (fun i=>p.length+1 - i.1) (0,none,0) (Nat.zero_le _) (Ent.mk' ⟨rfl,rfl,rfl,rfl,rfl,trivial⟩ rfl (fun β w' hs=>(hs.nilRow z_ab 1).perm [0])) g ?_
  rintro ⟨i,O,oc⟩ hi
  simp only at hi
  refine BIf.dec (fun hlt=>?_) (fun hge2=>?_)
  ·have hlt0:(i:Int)<((p.length+1:Nat):Int):=hlt
   have hi3:i<=3:=by omega
   refine ⟨((3 - i:Nat):Int),by rw [wrap_i64 (by omega) (by omega)];omega,?_⟩
   refine ⟨6*((3 - i:Nat):Int),wrap_i64 (by omega) (by omega),?_⟩
   refine ⟨by omega,_,shr64 (by omega),?_⟩
   have hq:trV p 3/64^(3 - i)<33554432:=Nat.lt_of_le_of_lt (Nat.div_le_self _ _) (by omega)
   refine ⟨_,z_oE (k:=6) hq (by decide),?_⟩
   obtain ⟨n,hn⟩: ∃n,trV p 3/64^(3 - i)%2^6=n:=⟨_,rfl⟩
   rw [hn]
   have hn6:n<64:=by rw [<-hn];exact Nat.mod_lt _ (by decide)
   have hx:(b64L url p)[i]?=some (letA url n):=by
    unfold b64L
    rw [List.getElem?_map,z_vb h3 h1 (by omega),<-hn]
    rfl
   obtain ⟨x,hxx⟩: ∃x,letA url n=x:=⟨_,rfl⟩
   rw [hxx] at hx
   have hsn:(b64L url p).take (i+1)=(b64L url p).take i++[x]:=by rw [List.take_add_one,hx];rfl
   refine ⟨n,x,rfl,by rw [<-hxx];exact hal n hn6,?_⟩
   intro b1
   refine ⟨1,((b64L url p).take i).length,((b64L url p).take (i+1)).length,((b64L url p).take i).map byte,[byte x],((b64L url p).take (i+1)).map byte,rfl,fun β w' hs=>z_am (hs.get 0 rfl),z_aq [x],by rw [hsn,List.length_append];rfl,by rw [hsn,List.map_append];rfl,by rw [List.length_take];omega,by rw [List.length_take];show _*1<=_;omega,?_⟩
   intro A' c' _ _ _
   refine ⟨((i+1:Nat):Int),by rw [wrap_i64 (by omega) (by omega)];rfl,?_⟩
   exact ⟨(i+1,A',c'),by show i+1<=p.length+1;omega,by show p.length+1 - (i+1)<p.length+1 - i;omega,Ent.mk' ⟨rfl,rfl,rfl,rfl,rfl,trivial⟩ rfl (fun β w' hs=>hs.perm [1])⟩
  ·have hge0: ¬(i:Int)<((p.length+1:Nat):Int):=hge2
   have hfl:(b64L url p).take i=b64L url p:=List.take_of_length_le (by omega)
   rw [hfl]
   intro β w' hs
   exact hs.fin [0] ⟨O,oc,rfl,z_gZ (hs.get 0 rfl),rfl⟩
theorem z_uT {b ty:Nat} {cs:List Value} {w:World} (h:(bkF b ty cs).p w) {o:Nat} {v:Value} (ho:cs[o]?=some v):w.cell? ⟨b,o,none⟩=some v:=by
 have hb:w.heap[b]?=some (.cells cs.toArray ty (0,0)):=h
 rw [cell_of_row w b o _ _ _ hb]
 simpa using ho
def insTri (A:Option Addr) (p:List UInt8) (pre:List (List UInt8)) (x:List UInt8) (args:Array Value) (X:Fact):Prop:= ∃A',args= #[.slice A' x.length x.length]/\X=noF/\Lies A A' p x/\(triL p)[pre.length]?=some x
def triEnd (L:List (List UInt8)) (J Jx:List (List UInt8)->Fact->Prop) (Fs:List Fact):Prop:=
 ∃f Fs',Fs=f::Fs'/\((∃xs,J xs f/\xs=L/\Fs'=[])\/(∃pre,Jx pre f/\Fs'=[]))
theorem z_vk (l:Nat) (w:World) (bs:Nat) (A:Option Addr) (p:List UInt8) (c:Nat) (hc:p.length<=c) (hL:p.length<=1000000) (f0 R:Fact) (J Jx:List (List UInt8)->Fact->Prop) (hJ0:J [] f0) (hJo: ∀pre f,J pre f->f.own=true) (hRo:R.own=false) (hY:Yc Tryz.prog l J Jx R (insTri A p))
  (hm:Mem w (f0::R::[bkF bs z_al [.slice A p.length c]])):
  Con Tryz.prog z_d0 #[.func (.yield l) #[] #[],.pointer (some ⟨bs,0,none⟩)] w [f0,bkF bs z_al [.slice A p.length c]] (fun _ Fs=>triEnd (triL p) J Jx Fs):=by
 have g:=z_iF w (Un [f0,bkF bs z_al [.slice A p.length c]]) [bs]
 have hs0:Sat (z_cU w (Un [f0,bkF bs z_al [.slice A p.length c]]) [bs]) (Va.of fun i=>[bs].getD i 0) 1 [] (f0::R::[bkF bs z_al [.slice A p.length c]]) w:=by
  refine hm.sat rfl (fun f hf ho k hk=>?_) ⟨Nat.le_refl 1,fun i _=>rfl⟩
  simp only [List.mem_cons,List.not_mem_nil,or_false] at hf
  rcases hf with rfl | rfl | rfl
  ·exact ⟨_,by simp,hk⟩
  ·rw [hRo] at ho;cases ho
  ·exact ⟨bkF bs z_al [.slice A p.length c],by simp,hk⟩
 have hs1:=hs0.toBk 2 rfl 0 (by decide) rfl
 refine z_ad (cx:=z_cU w (Un [f0,bkF bs z_al [.slice A p.length c]]) [bs]) g z_kD rfl rfl (β:=Va.of fun i=>[bs].getD i 0) [.c (.v (.func (.yield l) #[] #[])),.c (.p 0 0)] 1 _ _ rfl rfl hs1 ?_
 refine z_ai (ι:=(List UInt8×Option Addr×Nat)×List (List UInt8)×Fact) 1 (fun i=>[(0,.c (.v (.func (.yield l) #[] #[]))),(1,.c (.p 0 0))]) (fun i=>[⟨0,z_al,[.v (.slice i.1.2.1 i.1.1.length i.1.2.2)]⟩]) (fun i=>[i.2.2,R])
  (fun i=>J i.2.1 i.2.2/\triL p=i.2.1++triL i.1.1/\Lies A i.1.2.1 p i.1.1/\i.1.1.length<=i.1.2.2/\i.1.1.length<=1000000) (fun i=>i.1.1.length) ((p,A,c),[],f0) ⟨hJ0,rfl,Lies.refl A p,hc,hL⟩ (Ent.mk' ⟨rfl,rfl,trivial⟩ rfl (fun β w' hs=>hs)) g ?_
 rintro ⟨⟨r,B,d⟩,pre,f⟩ ⟨hJ,hpre,hin,hrd,hrl⟩
 simp only at hJ hpre hin hrd hrl
 have hfo:=hJo _ _ hJ
 simp only
 by_cases hr:r=[]
 ·subst hr
  rw [show triL []=[] from rfl,List.append_nil] at hpre
  intro β w' hs
  exact (hs.keepB (List.nil_sublist _)).fin [0] ⟨f,_,rfl,.inl ⟨pre,hJ,hpre.symm,rfl⟩⟩ rfl rfl rfl ⟨hfo,trivial⟩
 have hr0:0<r.length:=List.length_pos_iff.2 hr
 obtain ⟨m,hm⟩: ∃m:Nat,m=min r.length 3:=⟨_,rfl⟩
 have hmt:r.take m=r.take 3:=by
  rcases Nat.le_total r.length 3 with h | h
  ·rw [hm,Nat.min_eq_left h,List.take_length,List.take_of_length_le h]
  ·rw [hm,Nat.min_eq_right h]
 have hmd:r.drop m=r.drop 3:=by
  rcases Nat.le_total r.length 3 with h | h
  ·rw [hm,Nat.min_eq_left h,List.drop_length,List.drop_of_length_le h]
  ·rw [hm,Nat.min_eq_right h]
 have hml:(r.take 3).length=m:=by rw [<-hmt,List.length_take];omega
 have hdl:(r.drop 3).length=r.length - m:=by rw [<-hmd,List.length_drop]
 refine BIf.dec (fun _=>?_) (fun h=>absurd (show (0:Int)<(r.length:Int) by omega) h)
 refine ⟨(m:Int),by show min _ _=_;omega,?_⟩
 refine ⟨m,m,0,m,m,B,rfl,rfl,rfl,by omega,by omega,Nat.zero_le _,rfl,rfl,cutZ,?_⟩
 have hLx:(triL p)[pre.length]?=some (r.take 3):=by
  rw [hpre,z_o2 hr,List.getElem?_append_right (Nat.le_refl _),Nat.sub_self]
  rfl
 refine z_bq (X:=noF) (x:=r.take 3) hY 0 1 rfl hJ hfo rfl hRo (by decide) (fun β=>⟨B,by rw [hml];rfl,rfl,hin.trans (hmt▸Lies.take B r m),hLx⟩) rfl (fun β w _=>⟨trivial,fun k hk=>hk.elim,fun k _ h=>h.elim⟩) ?_ ?_
 ·intro f2 hfo2 hJ2
  refine ⟨d,r.length,m,r.length - m,d - m,_,rfl,rfl,rfl,by omega,by omega,by omega,rfl,rfl,rfl,?_⟩
  refine ⟨((r.drop 3,cutA B d m 1,d - m),pre++[r.take 3],f2),⟨hJ2,?_,hin.trans (hmd▸Lies.drop hrd (by omega)),by show (r.drop 3).length<=d - m;omega,by show (r.drop 3).length<=_;omega⟩,by show (r.drop 3).length<r.length;omega,?_⟩
  ·show triL p=(pre++[r.take 3])++triL (r.drop 3)
   rw [hpre,z_o2 hr,List.append_assoc]
   rfl
  ·simp only [hdl]
   exact Ent.mk' ⟨rfl,rfl,trivial⟩ rfl (fun β w' hs=>hs.perm [0,1])
 ·intro f2 hfo2 hJ2 β w' hs
  exact (hs.keepB (List.nil_sublist _)).fin [0] ⟨f2,_,rfl,.inr ⟨_,hJ2,rfl⟩⟩ rfl rfl rfl ⟨hfo2,trivial⟩
theorem z_rJ (w:World) (A:Option Addr) (n c:Nat):Con Tryz.prog z_i3 #[.slice A n c] w [] (fun v Fs=> ∃bs,v= .func (.func z_d0) #[] #[.pointer (some ⟨bs,0,none⟩)]/\Fs=[bkF bs z_al [.slice A n c]]):=by
 refine z_ad (cx:=z_hL w (Un [])) (z_kk w (Un [])) z_mD rfl rfl (β:=Va.z) [.c (.v (.slice A n c))] 0 [] [] rfl rfl (Sat.start rfl) ?_
 intro β w' hs
 exact hs.ofBk.fin [0] ⟨β 0,rfl,rfl⟩
theorem sizeB:(Tryz.prog.info? z_ae).map (·.size)=some 2:=by kernel_rfl
theorem liesB:liesAt Tryz.prog Tryz.prog.depth z_ae (2/Tryz.prog.cellsOf z_ae) 0 z_ae 1=true:=by kernel_rfl
set_option maxHeartbeats 1000000 in
set_option maxRecDepth 100000 in
theorem z_sK (b:Nat) (w:World) (h0:w.cell? ⟨b,0,none⟩=some (.pointer (some ⟨b,0,none⟩))):
  Calls Tryz.prog 82 #[.pointer (some ⟨b,0,none⟩)] w fun e w'=>e= .returned (.tuple #[])/\w'=w:=by
 obtain ⟨j,hj,_⟩:=Option.map_eq_some_iff.1 sizeB
 have t70:=Tryz.underlying67
 go_enter Tryz.func82,Tryz.ntmps82
 go_wp2
 rw [Lib.run_neq_ptr_same w _ t70 hj]
 go_wp2
 go_end0
 exact ⟨rfl,rfl⟩
set_option maxHeartbeats 1000000 in
set_option maxRecDepth 100000 in
theorem z_rA (b:Nat) (w:World) (h0:w.cell? ⟨b,0,none⟩=some (.pointer none)) (hsh:w.shape? b=some (z_ae,2)) (hfz:w.frozen? ⟨b,0,none⟩=false):
  Calls Tryz.prog 82 #[.pointer (some ⟨b,0,none⟩)] w fun e w'=>e= .returned (.tuple #[])/\w'=w.setCell ⟨b,0,none⟩ (.pointer (some ⟨b,0,none⟩)):=by
 obtain ⟨j,hj,hjs⟩:=Option.map_eq_some_iff.1 sizeB
 have t70:=Tryz.underlying67
 have t164:=Tryz.underlying191
 go_enter Tryz.func82,Tryz.ntmps82
 go_wp2
 rw [Lib.run_to_unsafe w ⟨b,0,none⟩ t70 t164 hj (by rw [hjs];decide) hsh (Nat.zero_lt_succ 1)]
 simp only [Result.andThen]
 rw [Oper.upon_value]
 go_wp2
 rw [run_callFunc_extern Tryz.func133 (by kernel_rfl) (by kernel_rfl) (by kernel_rfl) (e:=Extern.AbiNoEscape.same) (by kernel_rfl)]
 rw [Lib.run_noEscape]
 simp only [Result.andThen]
 rw [Oper.upon_value]
 go_wp2
 rw [Lib.run_from_unsafe w ⟨b,0,none⟩ t164 t70 hj hsh liesB]
 simp only [Result.andThen]
 rw [Oper.upon_value]
 go_wp2
 go_end0
 exact ⟨rfl,rfl⟩
theorem z_nn (w:World) (b:Nat) (p x:Value) (hp:p= .pointer none\/p=selfV b) (h:(bkF b z_ae [p,x]).p w):
  Con Tryz.prog z_bj #[selfV b] w [bkF b z_ae [p,x]] fun v Fs=>v= .tuple #[]/\Fs=[bkF b z_ae [selfV b,x]]:=by
 have hb:w.heap[b]?=some (.cells #[p,x] z_ae (0,0)):=h
 have hlt:b<w.heap.size:=(Array.getElem?_eq_some_iff.1 hb).1
 have h0:w.cell? ⟨b,0,none⟩=some p:=by rw [cell_of_row w b 0 _ _ _ hb];rfl
 rcases hp with rfl | rfl
 ·refine z_bm (Calls.mono (z_rA b w h0 (by simp [World.shape?,hb]) (by simp [World.frozen?,hb])) ?_)
  rintro e w' ⟨rfl,rfl⟩
  have h2:=heap_setCell_same w b 0 #[.pointer none,x] z_ae (selfV b) hb
  refine ⟨_,rfl,z_mI (f':=bkF b z_ae [selfV b,x]) ⟨rfl,rfl⟩ ⟨rfl,rfl,rfl,by simp [World.setCell],fun k _ hk=>heap_setCell_other w _ k _ hk⟩ h2 rfl (fun k hk=>⟨hk,?_⟩)⟩
  obtain rfl:k=b:=hk
  simpa [World.setCell] using hlt
 ·refine z_bm (Calls.mono (z_sK b w h0) ?_)
  rintro e w' ⟨rfl,rfl⟩
  refine ⟨_,rfl,z_mI (f':=bkF b z_ae [selfV b,x]) ⟨rfl,rfl⟩ (Chg.refl _ _) h rfl (fun k hk=>⟨hk,?_⟩)⟩
  obtain rfl:k=b:=hk
  exact hlt
theorem z_tC (w:World) (b:Nat) (p:Value) (A:Option Addr) (l:List UInt8) (c:Nat) (X:Option Addr) (xs:List UInt8) (cX:Nat) (hp:p= .pointer none\/p=selfV b) (hl:l.length<=10000000) (hx:xs.length<=10000000) (hm:Mem w (bldF b p A l c++[bsF X xs])):
  Con Tryz.prog z_b5 #[selfV b,.slice X xs.length cX] w (bldF b p A l c) fun v Fs=>v= .tuple #[.int .i64 (xs.length:Int),.nilIface]/\ ∃A' c',Fs=bldF b (selfV b) A' (l++xs) c':=by
 have g:=z_d5 w (Un (bldF b p A l c))
 have hml:=z_ag
 refine z_d2 (cx:=z_bT w (Un (bldF b p A l c))) g z_fu [.c (.v (selfV b)),.c (.v (.slice X xs.length cX))] [bsF X xs] hm ?_
 refine z_ac [0] (fun β w' hs=>z_nn w' b p _ hp (hs.get 0 rfl)) ?_
 rintro v Fs ⟨rfl,rfl⟩
 refine ⟨.slice A l.length c,fun β w' hs=>z_uT (hs.get 0 rfl) (o:=1) rfl,?_⟩
 refine ⟨1,l.length,(l++xs).length,l.map byte,xs.map byte,(l++xs).map byte,rfl,fun β w' hs=>hs.get 2 rfl,z_aq xs,by rw [List.length_append],by rw [List.map_append],by rw [List.length_append];omega,by rw [List.length_append];show _*1<=_;omega,?_⟩
 intro A' c' _ _ _
 refine ⟨_,fun β w' hs=>hs.bkSet 0 (o:=1) (us:=[.slice A' (l++xs).length c']) rfl (by show 2<=2;decide) (z_uK rfl),?_⟩
 intro β w' hs
 exact hs.fin [0,1] ⟨rfl,A',c',rfl⟩
structure BdS where
 v:Value
 A:Option Addr
 l:List UInt8
 c:Nat
theorem z_of: ∀p:List UInt8,(triL p).length<=p.length
 | []=>Nat.le_refl _
 | [_]=>Nat.le_refl _
 | [_,_]=>by simp [triL]
 | a::b::c::r=>by
  have:=z_of r
  simp only [triL,List.length_cons]
  omega
theorem z_rn (a b c:UInt8) (r:List UInt8):encS false (a::b::c::r)=encS false [a,b,c]++encS false r:=by
 have h4:(b64L false [a,b,c]).length=4:=by rw [z_kC];simp
 have e:b64L false (a::b::c::r)=b64L false [a,b,c]++b64L false r:=by
  unfold b64L
  rw [<-List.map_append]
  congr 1
 show b64L false (a::b::c::r)++eqs ((4 - (b64L false (a::b::c::r)).length%4)%4)=(b64L false [a,b,c]++eqs ((4 - (b64L false [a,b,c]).length%4)%4))++(b64L false r++eqs ((4 - (b64L false r).length%4)%4))
 rw [e,List.length_append,h4,Nat.add_mod_left]
 simp [eqs]
theorem z_qR: ∀(p:List UInt8),encS false p=(triL p).flatMap (encS false)
 | []=>rfl
 | [a]=>by simp [triL]
 | [a,b]=>by simp [triL]
 | a::b::c::r=>by rw [z_rn,z_qR r];rfl
theorem z_rS {x:List UInt8} (h1:1<=x.length) (h3:x.length<=3):encS false x=b64L false x++eqs (4 - (b64L false x).length)/\(b64L false x).length<=4/\2<=(b64L false x).length:=by
 have hl:=z_kC false x
 refine ⟨?_,by omega,by omega⟩
 show b64L false x++eqs ((4 - (b64L false x).length%4)%4)=_
 congr 2
 omega
structure BfS.Ok (i:BdS) (b:Nat) (p:List UInt8) (pre:List (List UInt8)):Prop where
 eq:pre=(triL p).take pre.length
 l:i.l=pre.flatMap (encS false)
 n:i.l.length<=4*pre.length
 v:i.v= .pointer none\/i.v=selfV b
set_option maxHeartbeats 1000000 in
theorem z_r7 (w:World) (al:ByteArray) (hal:AlphE al false) (A:Option Addr) (p:List UInt8) (c:Nat) (h0:p≠[]) (hc:p.length<=c) (hL:p.length<=1000000) (hm:Mem w [bsF A p]):
  Con Tryz.prog z_nt #[.string al,.slice A p.length c,.bool true] w [] fun v Fs=>v= .string (mkS (encS false p))/\Fs=[]:=by
 have g:=z_nu w (Un [])
 have hml:=z_ag
 refine z_d2 (cx:=z_mn w (Un [])) g z_rC [.c (.v (.string al)),.c (.v (.slice A p.length c)),.c (.v (.bool true))] [bsF A p] hm ?_
 refine z_ac [] (fun β w' hs=>z_rJ w' A p.length c) ?_
 rintro v Fs ⟨bs,rfl,rfl⟩
 refine z_ds g 2 (fun _=>[.pointer none,.slice none 0 0]) rfl rfl (fun _=>rfl) (fun b=>?_)
 refine z_aB (α:=List UInt8) (ι:=BdS) (κ:=Unit) g rfl (cv:=[.pointer (some ⟨bs,0,none⟩)]) rfl (by kernel_rfl) 3 (Nat.le_refl 3)
  (fun pre i=>BfS.Ok i b p pre) (fun i=>[⟨1,z_op,[.v (.bool true)]⟩,⟨0,z_ah,[.v (.string al)]⟩]) (fun i=>bldF b i.v i.A (i.l) i.c) (fun i=>⟨rfl,rfl,trivial⟩)
  (fun _ _ _=>False) (fun _=>[]) (fun _=>[]) (fun _=>trivial)
  [bkF bs z_al [.slice A p.length c]] [] [bsF A p] ⟨rfl,trivial⟩ (fun g h=>by obtain rfl:=List.mem_singleton.1 h;rfl) ⟨.pointer none,none,[],0⟩ ⟨rfl,rfl,Nat.le_refl _,.inl rfl⟩
  (fun β w hs=>⟨β,Agr.refl _ _,(hs.nilRow z_ab 1).perm [2,1,0,3]⟩) (insTri A p)
  (fun xs Fs'=>xs=triL p/\Fs'=[]) (fun _ Fs'=>Fs'=[])
  (fun l w f0 R J Jx hJ0 hJo hRo hY hm=>z_vk l w bs A p c hc hL f0 R J Jx hJ0 hJo hRo hY hm) ?_ ?_ ?_
 ·rintro ⟨v,A1,l1,c1⟩ pre x args X W S' lb bs' pn pn' hbs hok ⟨A',rfl,rfl,hin,hx⟩
  obtain ⟨q1,q3⟩:=z_qW p x (List.mem_of_getElem? hx)
  have hv:=hok.v
  have hl1:=hok.l
  have hn1:=hok.n
  have hpl:pre.length<(triL p).length:=(List.getElem?_eq_some_iff.1 hx).1
  have hpc:=z_of p
  obtain ⟨hes,hx4,hx2⟩:=z_rS q1 q3
  simp only at hv hl1 hn1
  refine ⟨_,rfl,?_⟩
  refine z_ac [] (fun β w' hs=>z_tk w' al false hal A' x x.length q1 q3 ((hs.sub 3 rfl rfl (bsF A' x) rfl (hin.rd w' (hs.get 3 rfl)) (fun k hk=>hin.d k hk)).mem.take (js:=[0]) rfl)) ?_
  rintro v2 Fs ⟨A2,c2,rfl,hc2,rfl⟩
  refine z_ac [2,3] (fun β w' hs=>z_tC w' b v A1 l1 c1 A2 (b64L false x) c2 hv (by omega) (by omega) ((hs.rowRd 0 rfl).mem.take (js:=[2,3,0]) rfl)) ?_
  rintro v3 Fs ⟨rfl,A3,c3,rfl⟩
  obtain ⟨n,hn⟩: ∃n,4 - (b64L false x).length=n:=⟨_,rfl⟩
  rw [hn] at hes
  have hel:(eqs n).length=n:=by simp [eqs]
  refine ⟨(n:Int),by rw [wrap_i64 (by omega) (by omega)];omega,?_⟩
  refine z_af (v:= .string (mkS (eqs n))) (fun β w' hs=>z_sC w' n (by omega)) ?_
  refine z_ac [0,1] (fun β w' hs=>z_ju w' b (selfV b) A3 (l1++b64L false x) c3 (eqs n) (.inr rfl) (by rw [List.length_append];omega) (by omega) (hs.mem.take (js:=[0,1]) rfl)) ?_
  rintro v4 Fs ⟨rfl,A4,c4,rfl⟩
  refine ⟨⟨selfV b,A4,l1++b64L false x++eqs n,c4⟩,⟨?_,?_,?_,.inr rfl⟩,Ent.mk' trivial rfl (fun β w' hs=>hs.perm [0,1])⟩
  ·rw [List.length_append,List.length_singleton,List.take_add_one,hx,<-hok.eq]
   rfl
  ·show l1++b64L false x++eqs n=_
   rw [List.flatMap_append,<-hl1,List.append_assoc,<-hes]
   simp
  ·show (l1++b64L false x++eqs n).length<=_
   rw [List.length_append,List.length_append,List.length_append,List.length_singleton,hel]
   omega
 ·rintro xs ⟨v,A1,l1,c1⟩ Fs hok ⟨rfl,rfl⟩
  have hl1:l1=encS false p:=by rw [z_qR];exact hok.l
  subst hl1
  have hv:=hok.v
  simp only at hv
  have hne:encS false p≠[]:=fun e=>by
   have h:b64L false p=[]:=(List.append_eq_nil_iff.1 e).1
   have h2:=z_kC false p
   rw [h] at h2
   have:=List.length_pos_iff.2 h0
   simp only [List.length_nil] at h2
   omega
  refine z_ac [0,1] (fun β w' hs=>z_tQ w' b v A1 (encS false p) c1 hne (hs.mem.take (js:=[0,1]) rfl)) ?_
  rintro v3 Fs ⟨rfl,rfl⟩
  intro β w' hs
  exact (hs.keepB (List.nil_sublist _)).fin [] ⟨rfl,rfl⟩
 ·rintro e pre j Fs h
  exact h.elim
theorem z_rm:AlphE (mkS [65,66,67,68,69,70,71,72,73,74,75,76,77,78,79,80,81,82,83,84,85,86,87,88,89,90,97,98,99,100,101,102,103,104,105,106,107,108,109,110,111,112,113,114,115,116,117,118,119,120,121,122,48,49,50,51,52,53,54,55,56,57,43,47]) false:=by
 have key: ∀n:_root_.Fin 64,(mkS [65,66,67,68,69,70,71,72,73,74,75,76,77,78,79,80,81,82,83,84,85,86,87,88,89,90,97,98,99,100,101,102,103,104,105,106,107,108,109,110,111,112,113,114,115,116,117,118,119,120,121,122,48,49,50,51,52,53,54,55,56,57,43,47]).data.toList[n.1]?=some (letA false n.1):=by decide+kernel
 exact fun n h=>key ⟨n,h⟩
theorem z_ea (w:World) (A:Option Addr) (p:List UInt8) (c:Nat) (h0:p≠[]) (hc:p.length<=c) (hL:p.length<=1000000) (hm:Mem w [bsF A p]):
  Pu Tryz.prog z_jV #[.slice A p.length c] w (.string (mkS (encS false p))):=by
 have g:=z_k3 w (Un [])
 refine z_d2 (cx:=z_iD w (Un [])) g z_nW [.c (.v (.slice A p.length c))] [bsF A p] hm ?_
 refine z_ac [] (fun β w' hs=>z_r7 w' _ z_rm A p c h0 hc hL (hs.mem.take (js:=[0]) rfl)) ?_
 rintro v Fs ⟨rfl,rfl⟩
 intro β w' hs
 exact hs.fin [] ⟨rfl,rfl⟩
theorem Mem.part2 {w:World} {f g g':Fact} (h:Mem w [f,g]) (hf:f.own=true) (hp:g'.p w) (hD: ∀k,g'.D k->g.D k):Mem w [f,g']:=by
 have hs:=(List.pairwise_cons.1 h.sepf).1 g (by simp) (.inl hf)
 refine ⟨fun x hx=>?_,fun x hx k hk=>?_,List.pairwise_cons.2 ⟨fun x hx _ k hk hk'=>?_,List.pairwise_singleton _ _⟩⟩
 ·simp only [List.mem_cons,List.not_mem_nil,or_false] at hx
  rcases hx with rfl | rfl
  ·exact h.fact _ (by simp)
  ·exact hp
 ·simp only [List.mem_cons,List.not_mem_nil,or_false] at hx
  rcases hx with rfl | rfl
  ·exact h.flt _ (by simp) k hk
  ·exact h.flt g (by simp) k (hD k hk)
 ·obtain rfl:=List.mem_singleton.1 hx
  exact hs k hk (hD k hk')
theorem z_pc {S:Sto}: ∀k,(mapF S.m S.ml).D k->(stoF S).D k:=fun k hk=>⟨mapF S.m S.ml,by simp,hk⟩
def Sto.names (S:Sto):List ByteArray:=sortK (S.ml.map (·.1))
theorem Sto.names_len (S:Sto):S.names.length=S.ts.length:=by rw [Sto.names,z_iO,List.length_map,Sto.ml,List.length_map]
def insN (L:List ByteArray) (pre:List ByteArray) (x:ByteArray) (args:Array Value) (X:Fact):Prop:=args= #[.string x]/\X=noF/\L[pre.length]?=some x
def tenEnd (S:Sto) (J Jx:List ByteArray->Fact->Prop) (Fs:List Fact):Prop:=
 ∃f Fs',Fs=f::Fs'/\((∃xs,J xs f/\xs=S.names/\Fs'=[stoF S])\/(∃pre,Jx pre f/\Fs'=[stoF S]))
theorem z_vE (l:Nat) (w:World) (bx:Nat) (S:Sto) (f0 R:Fact) (J Jx:List ByteArray->Fact->Prop) (hok:KeysOk S.ml) (hL:S.ts.length<=1000) (hJ0:J [] f0) (hJo: ∀pre f,J pre f->f.own=true) (hRo:R.own=false) (hY:Yc Tryz.prog l J Jx R (insN S.names))
  (hm:Mem w (f0::R::[bkF bx z_aa [ptr S.b],stoF S])):
  Con Tryz.prog z_aO #[.func (.yield l) #[] #[],.pointer (some ⟨bx,0,none⟩)] w [f0,bkF bx z_aa [ptr S.b],stoF S] (fun _ Fs=>tenEnd S J Jx Fs):=by
 have g:=z_bG w (Un [f0,bkF bx z_aa [ptr S.b],stoF S]) [bx]
 have hs0:Sat (z_az w (Un [f0,bkF bx z_aa [ptr S.b],stoF S]) [bx]) (Va.of fun _=>bx) 1 [] (f0::R::[bkF bx z_aa [ptr S.b],stoF S]) w:=by
  refine hm.sat rfl (fun f hf ho k hk=>?_) ⟨Nat.le_refl 1,fun i hi=>by obtain rfl:i=0:=Nat.lt_one_iff.1 hi;rfl⟩
  simp only [List.mem_cons,List.not_mem_nil,or_false] at hf
  rcases hf with rfl | rfl | rfl | rfl
  ·exact ⟨_,by simp,hk⟩
  ·rw [hRo] at ho;cases ho
  ·exact ⟨bkF bx z_aa [ptr S.b],by simp,hk⟩
  ·exact ⟨stoF S,by simp,hk⟩
 have hs1:=hs0.toBk 2 rfl 0 Nat.zero_lt_one rfl
 refine z_ad (cx:=z_az w (Un [f0,bkF bx z_aa [ptr S.b],stoF S]) [bx]) g z_cd rfl rfl (β:=Va.of fun _=>bx) [.c (.v (.func (.yield l) #[] #[])),.c (.p 0 0)] 1 _ _ rfl rfl hs1 ?_
 have hml:S.ml.length=S.ts.length:=by rw [Sto.ml,List.length_map]
 refine ⟨.map (some S.m),fun β w' hs=>bkc (z_iQ (hs.get 2 rfl)) (o:=0) rfl,?_⟩
 refine z_ac [] (fun β w' hs=>z_q7 w' (some S.m)) ?_
 rintro v Fs ⟨B,rfl,rfl⟩
 refine z_ac [] (fun β w' hs=>z_nx w' B S.m S.ml hok (by omega) ((hs.mem.take (js:=[0,3]) rfl).part2 rfl (z_kV (hs.get 3 rfl)) z_pc)) ?_
 have hnl:=S.names_len
 rintro v Fs ⟨A,c,rfl,hA0,rfl⟩
 have e0:sortK (S.ml.map (·.1))=S.names:=rfl
 rw [e0] at hA0 ⊢
 clear e0
 generalize hNm:S.names=N at *
 refine z_ai (ι:=List ByteArray×Fact) 1 (fun i=>[(0,.c (.v (.func (.yield l) #[] #[]))),(1,.c (.p 0 0)),(12,.c (.v (.slice A N.length c))),(13,.c (.v (.int .i64 (N.length:Int)))),(14,.c (.v (.int .i64 (i.1.length:Int))))]) (fun _=>[⟨0,z_aa,[.v (ptr S.b)]⟩]) (fun i=>[trowF A N c,i.2,R,stoF S])
  (fun i=>J i.1 i.2/\i.1=N.take i.1.length/\i.1.length<=N.length) (fun i=>N.length - i.1.length) ([],f0) ⟨hJ0,rfl,Nat.zero_le _⟩ (Ent.mk' ⟨rfl,rfl,rfl,rfl,rfl,trivial⟩ rfl (fun β w' hs=>hs.perm [0,2,3,4])) g ?_
 rintro ⟨pre,f⟩ ⟨hJ,hpre,hi⟩
 simp only at hJ hpre hi
 have hfo:=hJo _ _ hJ
 simp only
 refine BIf.dec (fun hlt=>?_) (fun hge=>?_)
 ·have hlt0:(pre.length:Int)<N.length:=hlt
  have hkl:pre.length<N.length:=by omega
  obtain ⟨x,hx,_⟩:=at_lt hkl
  obtain ⟨ad,hAd⟩:=hA0 (by omega)
  refine ⟨ad,pre.length,hAd,rfl,hkl,.string x,fun β w' hs=>?_,?_⟩
  ·have h:=z_am (hs.get 0 rfl)
   rw [hAd] at h
   exact Rd.cell1 h (by simp [hx])
  refine z_bq (X:=noF) (x:=x) hY 1 2 rfl hJ hfo rfl hRo (by decide) (fun β=>⟨rfl,rfl,hx⟩) rfl (fun β w _=>⟨trivial,fun k hk=>hk.elim,fun k _ h=>h.elim⟩) ?_ ?_
  ·intro f2 hfo2 hJ2
   have e:(pre++[x]).length=pre.length+1:=by rw [List.length_append];rfl
   refine ⟨((pre.length+1:Nat):Int),by rw [wrap_i64 (by omega) (by omega)];rfl,?_⟩
   refine ⟨(pre++[x],f2),⟨hJ2,?_,by show (pre++[x]).length<=_;omega⟩,by show N.length - (pre++[x]).length<N.length - pre.length;omega,?_⟩
   ·show pre++[x]=N.take (pre++[x]).length
    rw [e,List.take_add_one,hx,<-hpre]
    rfl
   ·simp only [e]
    exact Ent.mk' ⟨rfl,rfl,rfl,rfl,rfl,trivial⟩ rfl (fun β w' hs=>hs.perm [1,0,2,3])
  ·intro f2 hfo2 hJ2 β w' hs
   exact (hs.keepB (List.nil_sublist _)).fin [0,3] ⟨f2,_,rfl,.inr ⟨_,hJ2,rfl⟩⟩ rfl rfl rfl ⟨hfo2,rfl,trivial⟩
 ·have hge0: ¬(pre.length:Int)<N.length:=hge
  intro β w' hs
  exact (hs.keepB (List.nil_sublist _)).fin [1,3] ⟨f,_,rfl,.inl ⟨pre,hJ,by rw [hpre,hNm,List.take_of_length_le (by omega)],rfl⟩⟩ rfl rfl rfl ⟨hfo,rfl,trivial⟩
theorem z_ny (w:World) (S:Sto):Con Tryz.prog z_dc #[ptr S.b] w [] (fun v Fs=> ∃bx,v= .func (.func z_aO) #[] #[.pointer (some ⟨bx,0,none⟩)]/\Fs=[bkF bx z_aa [ptr S.b]]):=by
 refine z_ad (cx:=z_cx w (Un [])) (z_fn w (Un [])) z_g9 rfl rfl (β:=Va.z) [.c (.v (ptr S.b))] 0 [] [] rfl rfl (Sat.start rfl) ?_
 intro β w' hs
 exact hs.ofBk.fin [0] ⟨β 0,rfl,rfl⟩
theorem z_ta {S:Sto} {A B:List Ten} {T:Ten} (hT:S.ts=A++T::B): ∀k,(mapF T.b T.m).D k->(stoF S).D k:=fun k hk=>
 ⟨sepF (S.ts.map tenF),by simp,tenF T,List.mem_map.2 ⟨T,by rw [hT];simp,rfl⟩,mapF T.b T.m,by simp,hk⟩
theorem z_tl (w:World) (S:Sto) (t:ByteArray):Con Tryz.prog z_em #[ptr S.b,.string t] w [] (fun v Fs=> ∃bx bt,v= .func (.func z_bz) #[] #[.pointer (some ⟨bx,0,none⟩),.pointer (some ⟨bt,0,none⟩)]/\Fs=[bkF bx z_aa [ptr S.b],bkF bt z_ah [.string t]]):=by
 refine z_ad (cx:=z_dy w (Un [])) (z_gS w (Un [])) z_in rfl rfl (β:=Va.z) [.c (.v (ptr S.b)),.c (.v (.string t))] 0 [] [] rfl rfl (Sat.start rfl) ?_
 intro β w' hs
 exact hs.ofBk.ofBk.fin [0,1] ⟨β 0,β 1,rfl,rfl⟩
theorem z_sc {x:ByteArray} {l:List ByteArray} (h:x∈sortK l):x∈l:=by
 unfold sortK at h
 obtain ⟨s,hs,rfl⟩:=List.mem_map.1 h
 rw [(List.mergeSort_perm _ _).mem_iff] at hs
 obtain ⟨y,hy,rfl⟩:=List.mem_map.1 hs
 exact hy
theorem z_gq {x:ByteArray}: ∀ {l:ML},x∈l.map (·.1)->mlook l x≠none
 | [],h=>by cases h
 | (k,v)::r,h=>by
  by_cases hk:k=x
  ·simp [mlook,hk]
  ·simp only [mlook,if_neg hk]
   refine z_gq ?_
   simp only [List.map_cons,List.mem_cons] at h
   rcases h with h | h
   ·exact absurd h.symm hk
   ·exact h
end Go.Proofs.YtloeaiafphkjnaaGreatDoor.Sx
namespace Go.Proofs.YtloeaiafphkjnaaGreatDoor.Sx
open Go
attribute [local irreducible] Calls
section
variable {cx:Cx} {β:Va} {n:Nat} {H:List Bk} {F:List Fact} {w:World}
theorem Sat.nilPo (h:Sat cx β n H F w):Sat cx β n H (poF []::F) w:=h.noMem _ (fun f hf=>by cases hf) (fun k hk=>by obtain ⟨f,hf,_⟩:=hk;cases hf)
end
def csF (cs:List Crd):Fact:=poF (cs.map crRd)
theorem z_qI {cs:List Crd} {w:World} (h:(csF cs).p w) {c:Crd} (hc:c∈cs):SRd c.sec.x c.sec.a w/\Rd 1 c.rA c.roles.length (strs c.roles) w:=h (crRd c) (List.mem_map.2 ⟨c,hc,rfl⟩)
theorem z_pB {y:Sec} {k:Nat} (h:(secF y.x y.a).D k): ∃f∈[y.ha1.f,y.server.f,y.stored.f,y.salt.f],f.D k:=by
 obtain ⟨f,hf,hk⟩:=h
 simp only [List.mem_cons,List.not_mem_nil,or_false] at hf
 rcases hf with rfl | rfl | rfl | rfl
 ·exact ⟨y.salt.f,by simp,hk⟩
 ·exact ⟨y.stored.f,by simp,hk⟩
 ·exact ⟨y.server.f,by simp,hk⟩
 ·exact ⟨y.ha1.f,by simp,hk⟩
theorem Sec.rdR {y:Sec} {w:World} (h: ∀f∈[y.ha1.f,y.server.f,y.stored.f,y.salt.f],f.p w):SRd y.x y.a w:=Sec.rd fun f hf=>h f (by
 simp only [Sec.fs,List.mem_cons,List.not_mem_nil,or_false] at hf ⊢
 rcases hf with rfl | rfl | rfl | rfl<;>simp)
theorem Sat.toCs {cx:Cx} {β:Va} {n:Nat} {H:List Bk} {F:List Fact} {w:World} (h:Sat cx β n H F w) (js:List Nat) {c:Crd} (e:takeIx F js=crdRows c) (hn:nodupB js=true:=by rfl):Sat cx β n H (csF [c]::dropIx js 0 F) w:=by
 have hs: ∀ {w:World},Mem w (takeIx F js)->(srowF c.rA c.roles c.rc).p w:=fun hm=>hm.fact _ (by rw [e];simp [crdRows])
 have hm0:=h.mem.take hn
 refine h.fuse js (csF [c]) (fun w hm=>?_) (fun k hk=>?_) hn (by rw [e];exact ⟨rfl,rfl,rfl,rfl,rfl,trivial⟩)
 ·intro f hf
  obtain rfl:=List.mem_singleton.1 hf
  refine ⟨Sec.rdR fun f hf=>hm.fact f ?_,z_am (hs hm)⟩
  rw [e]
  exact List.mem_cons_of_mem _ hf
 ·obtain ⟨f,hf,hk⟩:=hk
  obtain rfl:=List.mem_singleton.1 hf
  rw [e]
  rcases hk with hk | hk
  ·obtain ⟨f,hf,hk⟩:=z_pB hk
   exact ⟨f,List.mem_cons_of_mem _ hf,hk⟩
  ·exact ⟨srowF c.rA c.roles c.rc,by simp [crdRows],strsRowD (hs hm0) k hk⟩
def Sec.bs (y:Sec):List Fact:=[browF z_ab y.ha1.A y.ha1.l y.ha1.c,browF z_ab y.server.A y.server.l y.server.c,browF z_ab y.stored.A y.stored.l y.stored.c,browF z_ab y.salt.A y.salt.l y.salt.c]
def crdBs (c:Crd):List Fact:=srowF c.rA c.roles c.rc::c.sec.bs
theorem bs_ro {y:Sec} {w:World} (h: ∀f∈y.bs,f.p w): ∀f∈[y.ha1.f,y.server.f,y.stored.f,y.salt.f],f.p w:=by
 intro f hf
 simp only [List.mem_cons,List.not_mem_nil,or_false] at hf
 rcases hf with rfl | rfl | rfl | rfl
 ·exact browRo (h (browF z_ab y.ha1.A y.ha1.l y.ha1.c) (by simp [Sec.bs]))
 ·exact browRo (h (browF z_ab y.server.A y.server.l y.server.c) (by simp [Sec.bs]))
 ·exact browRo (h (browF z_ab y.stored.A y.stored.l y.stored.c) (by simp [Sec.bs]))
 ·exact browRo (h (browF z_ab y.salt.A y.salt.l y.salt.c) (by simp [Sec.bs]))
theorem bs_D {y:Sec} {w:World} (h: ∀f∈y.bs,f.p w) {k:Nat} (hk:(secF y.x y.a).D k):Un y.bs k:=by
 obtain ⟨f,hf,hk⟩:=z_pB hk
 simp only [List.mem_cons,List.not_mem_nil,or_false] at hf
 rcases hf with rfl | rfl | rfl | rfl
 ·exact ⟨browF z_ab y.ha1.A y.ha1.l y.ha1.c,by simp [Sec.bs],browRoD (h _ (by simp [Sec.bs])) k hk⟩
 ·exact ⟨browF z_ab y.server.A y.server.l y.server.c,by simp [Sec.bs],browRoD (h _ (by simp [Sec.bs])) k hk⟩
 ·exact ⟨browF z_ab y.stored.A y.stored.l y.stored.c,by simp [Sec.bs],browRoD (h _ (by simp [Sec.bs])) k hk⟩
 ·exact ⟨browF z_ab y.salt.A y.salt.l y.salt.c,by simp [Sec.bs],browRoD (h _ (by simp [Sec.bs])) k hk⟩
theorem Sat.bsCs {cx:Cx} {β:Va} {n:Nat} {H:List Bk} {F:List Fact} {w:World} (h:Sat cx β n H F w) (js:List Nat) {c:Crd} (e:takeIx F js=crdBs c) (hn:nodupB js=true:=by rfl):Sat cx β n H (csF [c]::dropIx js 0 F) w:=by
 have hm0:=h.mem.take hn
 rw [e] at hm0
 refine h.fuse js (csF [c]) (fun w hm=>?_) (fun k hk=>?_) hn (by rw [e];exact ⟨rfl,rfl,rfl,rfl,rfl,trivial⟩)
 ·rw [e] at hm
  intro f hf
  obtain rfl:=List.mem_singleton.1 hf
  exact ⟨Sec.rdR (bs_ro fun f hf=>hm.fact f (List.mem_cons_of_mem _ hf)),z_am (hm.fact (srowF c.rA c.roles c.rc) (by simp [crdBs]))⟩
 ·obtain ⟨f,hf,hk⟩:=hk
  obtain rfl:=List.mem_singleton.1 hf
  rw [e]
  rcases hk with hk | hk
  ·obtain ⟨f,hf,hk⟩:=bs_D (fun f hf=>hm0.fact f (List.mem_cons_of_mem _ hf)) hk
   exact ⟨f,List.mem_cons_of_mem _ hf,hk⟩
  ·exact ⟨srowF c.rA c.roles c.rc,by simp [crdBs],strsRowD (hm0.fact _ (by simp [crdBs])) k hk⟩
theorem Sat.bsCsU {cx:Cx} {β:Va} {n:Nat} {H:List Bk} {F:List Fact} {w:World} (h:Sat cx β n H F w) (js:List Nat) {c:Crd} (e:takeIx F js=crdBs c) (hn:nodupB js=true:=by rfl): ∀k,(csF [c]).D k->Un (crdBs c) k:=by
 have hm0:=h.mem.take hn
 rw [e] at hm0
 intro k hk
 obtain ⟨f,hf,hk⟩:=hk
 obtain rfl:=List.mem_singleton.1 hf
 rcases hk with hk | hk
 ·obtain ⟨f,hf,hk⟩:=bs_D (fun f hf=>hm0.fact f (List.mem_cons_of_mem _ hf)) hk
  exact ⟨f,List.mem_cons_of_mem _ hf,hk⟩
 ·exact ⟨srowF c.rA c.roles c.rc,by simp [crdBs],strsRowD (hm0.fact _ (by simp [crdBs])) k hk⟩
def rs0 (b:Nat):RS:=⟨b,none,0,[],none,0,[],[],0,0⟩
theorem Sat.rs0 {cx:Cx} {β:Va} {n:Nat} {H:List Bk} {F:List Fact} {w:World} {b:Nat} (h:Sat cx β n H (bkF b z_aR (rs0 b).vs::F) w):Sat cx β n H (rsF (rs0 b)::F) w:=by
 have h1:=(h.nilPo.nilRow z_aj 10).noMem (strsF none []) ⟨rfl,fun q=>by cases q⟩ (fun k hk=>by obtain ⟨q,_⟩:=hk;cases q)
 have h2:=h1.sep [3,0,1,2] rfl ⟨rfl,rfl,rfl,rfl,trivial⟩
 have e:dropIx [3,0,1,2] 4 F=F:=z_aM (by decide)
 refine h2.weaken (List.Sublist.refl _) ?_
 show List.Sublist (_::F) (_::dropIx [3,0,1,2] 4 F)
 rw [e]
 exact List.Sublist.refl _
theorem Sat.rsPool2 {cx:Cx} {β:Va} {n:Nat} {H:List Bk} {w:World} {R:RS} {c:Crd} {F:List Fact} (h:Sat cx β n H (csF [c]::rsF R::F) w):
  Sat cx β n H (rsF {R with ps:=secF c.sec.x c.sec.a::rdF 1 c.rA c.roles.length (strs c.roles)::R.ps}::F) w:=by
 have h1:=h.unsep 1 rfl
 have h2:=h1.fuse [3,4] (poF (secF c.sec.x c.sec.a::rdF 1 c.rA c.roles.length (strs c.roles)::R.ps)) (fun w hm f hf=>by
  have hc:=z_qI (hm.fact (csF [c]) (by show csF [c]∈[poF R.ps,csF [c]];simp)) (c:=c) (by simp)
  rcases List.mem_cons.1 hf with rfl | hf
  ·exact hc.1
  ·rcases List.mem_cons.1 hf with rfl | hf
   ·exact hc.2
   ·exact (show (poF R.ps).p w from hm.fact (poF R.ps) (by show poF R.ps∈[poF R.ps,csF [c]];simp)) f hf) (fun k hk=>by
  obtain ⟨f,hf,hk⟩:=hk
  rcases List.mem_cons.1 hf with rfl | hf
  ·exact ⟨csF [c],by show csF [c]∈[poF R.ps,csF [c]];simp,crRd c,by simp,.inl hk⟩
  ·rcases List.mem_cons.1 hf with rfl | hf
   ·exact ⟨csF [c],by show csF [c]∈[poF R.ps,csF [c]];simp,crRd c,by simp,.inr hk⟩
   ·exact ⟨poF R.ps,by show poF R.ps∈[poF R.ps,csF [c]];simp,f,hf,hk⟩) rfl ⟨rfl,rfl,trivial⟩
 have h3:=h2.sep [1,2,3,0] rfl ⟨rfl,rfl,rfl,rfl,trivial⟩
 have e0:dropIx [1] 2 F=F:=z_aM (by decide)
 have e1:dropIx [3,4] 5 F=F:=z_aM (by decide)
 have e2:dropIx [1,2,3,0] 4 F=F:=z_aM (by decide)
 refine h3.weaken (List.Sublist.refl _) ?_
 show List.Sublist _ (_::dropIx [1,2,3,0] 4 (dropIx [3,4] 5 (dropIx [1] 2 F)))
 rw [e0,e1,e2]
 exact List.Sublist.refl _
theorem z_q5 {R:RS} {c:Crd}: ∀k,Un [rsF {R with ps:=secF c.sec.x c.sec.a::rdF 1 c.rA c.roles.length (strs c.roles)::R.ps}] k->Un [csF [c],rsF R] k:=by
 rintro k ⟨f,hf,hk⟩
 obtain rfl:=List.mem_singleton.1 hf
 obtain ⟨f2,hf2,hk2⟩:=hk
 simp only [RS.fs,List.mem_cons,List.not_mem_nil,or_false] at hf2
 have hin: ∀f∈R.fs,f.D k->Un [csF [c],rsF R] k:=fun f hf hk=>⟨rsF R,by simp,f,hf,hk⟩
 rcases hf2 with rfl | rfl | rfl | rfl
 ·exact hin (bkF R.b z_aR R.vs) (by simp [RS.fs]) hk2
 ·exact hin (strsF R.tA R.ts) (by simp [RS.fs]) hk2
 ·exact hin (crowF R.lA R.cs R.lc) (by simp [RS.fs]) hk2
 ·obtain ⟨f3,hf3,hk3⟩:=hk2
  rcases List.mem_cons.1 hf3 with rfl | hf3
  ·exact ⟨csF [c],by simp,crRd c,by simp,.inl hk3⟩
  ·rcases List.mem_cons.1 hf3 with rfl | hf3
   ·exact ⟨csF [c],by simp,crRd c,by simp,.inr hk3⟩
   ·exact hin (poF R.ps) (by simp [RS.fs]) ⟨f3,hf3,hk3⟩
end Go.Proofs.YtloeaiafphkjnaaGreatDoor.Sx
namespace Go.Proofs.YtloeaiafphkjnaaGreatDoor.Sx
open Go
attribute [local irreducible] Calls
theorem z_tK {us:List ACrd}: ∀(N:List ByteArray),(∀x∈N,x∈us.map (·.user))->(N.filterMap (ausr us)).length=N.length/\ ∀(k:Nat) (x:ByteArray),N[k]?=some x->(N.filterMap (ausr us))[k]?=ausr us x
 | [],_=>⟨rfl,fun k x h=>by simp at h⟩
 | y::r,h=>by
  obtain ⟨h1,h2⟩:=z_tK r (fun x hx=>h x (List.mem_cons_of_mem _ hx))
  have hy:=h y List.mem_cons_self
  cases hq:ausr us y with
  | none=>exact absurd hy (ausr_none.1 hq)
  | some c=>
   rw [List.filterMap_cons,hq]
   refine ⟨by simp [h1],fun k x hk=>?_⟩
   cases k with
   | zero=>
    obtain rfl:y=x:=by simpa using hk
    simp [hq]
   | succ k=>
    have hk':r[k]?=some x:=by simpa using hk
    simpa using h2 k x hk'
theorem roP {f:Fact} {w:World} (h:(roX f).p w):f.p w:=h
def tenEndR (S:Sto) (J Jx:List ByteArray->Fact->Prop) (Fs:List Fact):Prop:=
 ∃f Fs',Fs=f::Fs'/\((∃xs,J xs f/\xs=S.names/\Fs'=[])\/(∃pre,Jx pre f/\Fs'=[]))
theorem z_uP (l:Nat) (w:World) (bx:Nat) (S:Sto) (f0 R:Fact) (J Jx:List ByteArray->Fact->Prop) (hok:KeysOk S.ml) (hL:S.ts.length<=1000) (hJ0:J [] f0) (hJo: ∀pre f,J pre f->f.own=true) (hRo:R.own=false) (hY:Yc Tryz.prog l J Jx R (insN S.names))
  (hm:Mem w (f0::R::[bkF bx z_aa [ptr S.b],roX (stoF S)])):
  Con Tryz.prog z_aO #[.func (.yield l) #[] #[],.pointer (some ⟨bx,0,none⟩)] w [f0,bkF bx z_aa [ptr S.b]] (fun _ Fs=>tenEndR S J Jx Fs):=by
 have g:=z_bG w (Un [f0,bkF bx z_aa [ptr S.b]]) [bx]
 have hs0:Sat (z_az w (Un [f0,bkF bx z_aa [ptr S.b]]) [bx]) (Va.of fun _=>bx) 1 [] (f0::R::[bkF bx z_aa [ptr S.b],roX (stoF S)]) w:=by
  refine hm.sat rfl (fun f hf ho k hk=>?_) ⟨Nat.le_refl 1,fun i hi=>by obtain rfl:i=0:=Nat.lt_one_iff.1 hi;rfl⟩
  simp only [List.mem_cons,List.not_mem_nil,or_false] at hf
  rcases hf with rfl | rfl | rfl | rfl
  ·exact ⟨_,by simp,hk⟩
  ·rw [hRo] at ho;cases ho
  ·exact ⟨bkF bx z_aa [ptr S.b],by simp,hk⟩
  ·cases ho
 have hs1:=hs0.toBk 2 rfl 0 Nat.zero_lt_one rfl
 refine z_ad (cx:=z_az w (Un [f0,bkF bx z_aa [ptr S.b]]) [bx]) g z_cd rfl rfl (β:=Va.of fun _=>bx) [.c (.v (.func (.yield l) #[] #[])),.c (.p 0 0)] 1 _ _ rfl rfl hs1 ?_
 have hml:S.ml.length=S.ts.length:=by rw [Sto.ml,List.length_map]
 refine ⟨.map (some S.m),fun β w' hs=>bkc (z_iQ (roP (hs.get 2 rfl))) (o:=0) rfl,?_⟩
 refine z_ac [] (fun β w' hs=>z_q7 w' (some S.m)) ?_
 rintro v Fs ⟨B,rfl,rfl⟩
 refine z_ac [] (fun β w' hs=>z_nx w' B S.m S.ml hok (by omega) ((hs.mem.take (js:=[0,3]) rfl).part2 rfl (z_kV (roP (hs.get 3 rfl))) z_pc)) ?_
 have hnl:=S.names_len
 rintro v Fs ⟨A,c,rfl,hA0,rfl⟩
 have e0:sortK (S.ml.map (·.1))=S.names:=rfl
 rw [e0] at hA0 ⊢
 clear e0
 generalize hNm:S.names=N at *
 refine z_ai (ι:=List ByteArray×Fact) 1 (fun i=>[(0,.c (.v (.func (.yield l) #[] #[]))),(1,.c (.p 0 0)),(12,.c (.v (.slice A N.length c))),(13,.c (.v (.int .i64 (N.length:Int)))),(14,.c (.v (.int .i64 (i.1.length:Int))))]) (fun _=>[⟨0,z_aa,[.v (ptr S.b)]⟩]) (fun i=>[trowF A N c,i.2,R,roX (stoF S)])
  (fun i=>J i.1 i.2/\i.1=N.take i.1.length/\i.1.length<=N.length) (fun i=>N.length - i.1.length) ([],f0) ⟨hJ0,rfl,Nat.zero_le _⟩ (Ent.mk' ⟨rfl,rfl,rfl,rfl,rfl,trivial⟩ rfl (fun β w' hs=>hs.perm [0,2,3,4])) g ?_
 rintro ⟨pre,f⟩ ⟨hJ,hpre,hi⟩
 simp only at hJ hpre hi
 have hfo:=hJo _ _ hJ
 simp only
 refine BIf.dec (fun hlt=>?_) (fun hge=>?_)
 ·have hlt0:(pre.length:Int)<N.length:=hlt
  have hkl:pre.length<N.length:=by omega
  obtain ⟨x,hx,_⟩:=at_lt hkl
  obtain ⟨ad,hAd⟩:=hA0 (by omega)
  refine ⟨ad,pre.length,hAd,rfl,hkl,.string x,fun β w' hs=>?_,?_⟩
  ·have h:=z_am (hs.get 0 rfl)
   rw [hAd] at h
   exact Rd.cell1 h (by simp [hx])
  refine z_bq (X:=noF) (x:=x) hY 1 2 rfl hJ hfo rfl hRo (by decide) (fun β=>⟨rfl,rfl,hx⟩) rfl (fun β w _=>⟨trivial,fun k hk=>hk.elim,fun k _ h=>h.elim⟩) ?_ ?_
  ·intro f2 hfo2 hJ2
   have e:(pre++[x]).length=pre.length+1:=by rw [List.length_append];rfl
   refine ⟨((pre.length+1:Nat):Int),by rw [wrap_i64 (by omega) (by omega)];rfl,?_⟩
   refine ⟨(pre++[x],f2),⟨hJ2,?_,by show (pre++[x]).length<=_;omega⟩,by show N.length - (pre++[x]).length<N.length - pre.length;omega,?_⟩
   ·show pre++[x]=N.take (pre++[x]).length
    rw [e,List.take_add_one,hx,<-hpre]
    rfl
   ·simp only [e]
    exact Ent.mk' ⟨rfl,rfl,rfl,rfl,rfl,trivial⟩ rfl (fun β w' hs=>hs.perm [1,0,2,3])
  ·intro f2 hfo2 hJ2 β w' hs
   exact (hs.keepB (List.nil_sublist _)).fin [0] ⟨f2,_,rfl,.inr ⟨_,hJ2,rfl⟩⟩ rfl rfl rfl ⟨hfo2,trivial⟩
 ·have hge0: ¬(pre.length:Int)<N.length:=hge
  intro β w' hs
  exact (hs.keepB (List.nil_sublist _)).fin [1] ⟨f,_,rfl,.inl ⟨pre,hJ,by rw [hpre,hNm,List.take_of_length_le (by omega)],rfl⟩⟩ rfl rfl rfl ⟨hfo,trivial⟩
structure RolOk (c:Crd):Prop where
 off:c.roles≠[]-> ∃b,c.rA=some ⟨b,0,none⟩
 cap:c.roles.length<=c.rc
theorem z_tG {A:Option Addr} {l:List ByteArray} {c:Nat} {w:World} (h:(srowF A l c).p w) (hl:l≠[]): ∃b,A=some ⟨b,0,none⟩:=by
 have h0:l.length≠0:=by simpa using hl
 have hrow:w.ownsRow 0 z_ah 1 (.slice A l.length c) l.length (strs l):=h
 rcases hrow.2 with ⟨_,hz⟩ | ⟨g,cap,cur,hv,_⟩
 ·exact absurd hz h0
 ·injection hv with h4 h5 h6
  exact ⟨g,h4⟩
theorem z_te (w:World) (A:Option Addr) (l:List ByteArray) (c:Nat) (hr:Rd 1 A l.length (strs l) w) (hn:l.length<=1000000):
  Con Tryz.prog z_aH #[.slice A l.length c] w [] fun v Fs=> ∃A' c',v= .slice A' l.length c'/\l.length<=c'/\(l≠[]-> ∃b,A'=some ⟨b,0,none⟩)/\Fs=[srowF A' l c']:=by
 refine z_ad (cx:=z_aE w (Un [])) (z_aW w (Un [])) z_ba rfl rfl (β:=Va.z) [.c (.v (.slice A l.length c))] 0 [] [rdF 1 A l.length (strs l)] rfl rfl ((Sat.start rfl).rd (fun _ h=>by cases h) hr) ?_
 refine BIf.mk (fun h=>?_) (fun h=>?_)
 ·intro β w' hs
  have hA:A=none:=by simpa using h
  subst hA
  have hl:l=[]:=by
   cases l with
   | nil=>rfl
   | cons x r=>obtain ⟨ad,q,_⟩:=hr.2 (by simp);cases q
  subst hl
  exact (hs.nilRow z_ah 1).fin [0] ⟨none,0,rfl,Nat.le_refl _,fun h=>absurd rfl h,rfl⟩
 intro b
 refine ⟨0,0,l.length,[],strs l,_,rfl,fun β w hs=>hs.get 1 rfl,z_ep l,Nat.zero_add _,rfl,by rw [z_ag];omega,by show l.length*16<=_;omega,?_⟩
 intro A' c' h1 h2 h3 β w' hs
 exact hs.fin [0] ⟨A',c',rfl,h1,fun hl=>z_tG (hs.get 0 rfl) hl,rfl⟩
theorem z_so (w:World) (c:Crd) (h1:SRd c.sec.x c.sec.a w) (h2:Rd 1 c.rA c.roles.length (strs c.roles) w) (hz:CSz c.a):
  Con Tryz.prog z_bY #[.agg c.vs.toArray] w [] fun v Fs=> ∃c':Crd,c'.a=c.a/\RolOk c'/\v= .agg c'.vs.toArray/\Fs=[srowF c'.rA c'.roles c'.rc,c'.sec.ha1.f,c'.sec.server.f,c'.sec.stored.f,c'.sec.salt.f]:=by
 have g:=z_cG w (Un [])
 refine z_ad (cx:=z_aK w (Un [])) g z_el rfl rfl (β:=Va.z) [.agg c.ss] 0 [] [oldF w] rfl rfl (z_aw rfl) ?_
 have hS: ∀ {n:Nat} {F:List Fact},Sub (z_aK w (Un [])) n [⟨1,z_ao,ti100.zero.map SL.v⟩,⟨0,z_ao,c.ss⟩] F [⟨0,z_ao,c.ss⟩] []:=fun {n F}=>Sub.of (List.sublist_cons_self _ _) (List.nil_sublist _)
 refine z_ak g z_dg (by kernel_rfl) [⟨0,z_ao,c.ss⟩] [] hS ?_
 refine z_ac [] (fun β w' hs=>z_od w' c.sec.x c.sec.a (h1.old (hs.get 0 rfl)) hz.sec) ?_
 rintro v Fs ⟨y,hy,rfl,rfl⟩
 refine ⟨hS,?_⟩
 refine z_ac [] (fun β w' hs=>z_te w' c.rA c.roles c.rc (Rd.old h2 (hs.get 4 rfl)) hz.roles) ?_
 rintro v Fs ⟨A',c',rfl,k1,k2,rfl⟩
 refine ⟨hS,?_⟩
 intro β w' hs
 refine (hs.keepB (List.nil_sublist _)).fin [0,1,2,3,4] ⟨⟨0,c.tenant,c.user,y,c.gen,A',c',c.roles,c.revoked⟩,?_,⟨k2,k1⟩,rfl,rfl⟩ rfl rfl rfl ⟨rfl,rfl,rfl,rfl,rfl,trivial⟩
 show ACrd.mk _ _ y.a _ _ _=ACrd.mk _ _ _ _ _ _
 rw [hy]
def insZ (L:List ACrd) (pre:List ACrd) (x:ACrd) (args:Array Value) (X:Fact):Prop:= ∃c:Crd,c.a=x/\RolOk c/\args= #[.agg c.vs.toArray]/\X=csF [c]/\L[pre.length]?=some x
def usrEndR (S:Sto) (L:List ACrd) (J Jx:List ACrd->Fact->Prop) (Fs:List Fact):Prop:=
 ∃f Fs',Fs=f::Fs'/\((∃xs,J xs f/\xs=L/\Fs'=[])\/(∃pre,Jx pre f/\Fs'=[]))
theorem z_vd (l:Nat) (w:World) (bx bt:Nat) (S:Sto) (t:ByteArray) (f0 R:Fact) (J Jx:List ACrd->Fact->Prop) {A B:List Ten} {T:Ten} (hT:S.ts=A++T::B) (htO:tenO S.ts t=some T) (hok:KeysOk T.m) (hL:T.us.length<=1000) (hz: ∀c∈T.us,CSz c.a)
  (hJ0:J [] f0) (hJo: ∀pre f,J pre f->f.own=true) (hRo:R.own=false) (hY:Yc Tryz.prog l J Jx R (insZ (usL (T.us.map Crd.a))))
  (hm:Mem w (f0::R::[bkF bx z_aa [ptr S.b],bkF bt z_ah [.string t],roX (stoF S)])):
  Con Tryz.prog z_bz #[.func (.yield l) #[] #[],.pointer (some ⟨bx,0,none⟩),.pointer (some ⟨bt,0,none⟩)] w [f0,bkF bx z_aa [ptr S.b],bkF bt z_ah [.string t]]
   (fun _ Fs=>usrEndR S (usL (T.us.map Crd.a)) J Jx Fs):=by
 have g:=z_fB w (Un [f0,bkF bx z_aa [ptr S.b],bkF bt z_ah [.string t]]) [bx,bt]
 have hs0:Sat (z_bk w (Un [f0,bkF bx z_aa [ptr S.b],bkF bt z_ah [.string t]]) [bx,bt]) (Va.of fun i=>[bx,bt].getD i 0) 2 [] (f0::R::[bkF bx z_aa [ptr S.b],bkF bt z_ah [.string t],roX (stoF S)]) w:=by
  refine hm.sat rfl (fun f hf ho k hk=>?_) ⟨Nat.le_refl 2,fun i _=>rfl⟩
  simp only [List.mem_cons,List.not_mem_nil,or_false] at hf
  rcases hf with rfl | rfl | rfl | rfl | rfl
  ·exact ⟨_,by simp,hk⟩
  ·rw [hRo] at ho;cases ho
  ·exact ⟨bkF bx z_aa [ptr S.b],by simp,hk⟩
  ·exact ⟨bkF bt z_ah [.string t],by simp,hk⟩
  ·cases ho
 have hs1:=(hs0.toBk 3 rfl 1 (by decide) rfl).toBk 2 rfl 0 (by decide) rfl
 refine z_ad (cx:=z_bk w (Un [f0,bkF bx z_aa [ptr S.b],bkF bt z_ah [.string t]]) [bx,bt]) g z_g7 rfl rfl (β:=Va.of fun i=>[bx,bt].getD i 0) [.c (.v (.func (.yield l) #[] #[])),.c (.p 0 0),.c (.p 1 0)] 2 _ _ rfl rfl hs1 ?_
 refine z_af (v:= .map (some T.b)) (fun β w' hs=>by
  have h:=z_mV w' S t (roP (hs.get 2 rfl)) (fun k hk=>hs.flt _ (List.mem_of_getElem? (i:=2) rfl) k hk)
  rw [htO] at h
  exact h) ?_
 refine z_ac [] (fun β w' hs=>z_ui w' (some T.b)) ?_
 rintro v Fs ⟨B',rfl,rfl⟩
 refine z_ac [] (fun β w' hs=>z_rc w' B' T.b T.m hok (by rw [Ten.m,List.length_map];omega) ((hs.mem.take (js:=[0,3]) rfl).part2 rfl (z_mO (z_lb (roP (hs.get 3 rfl)) hT)) (z_ta hT))) ?_
 rintro v Fs ⟨A',c,rfl,hA0,rfl⟩
 obtain ⟨N,hN⟩: ∃N,sortK (T.m.map (·.1))=N:=⟨_,rfl⟩
 have hmu:T.m.map (·.1)=(T.us.map Crd.a).map (·.user):=by rw [Ten.m,List.map_map,List.map_map];rfl
 have hU:usL (T.us.map Crd.a)=N.filterMap (ausr (T.us.map Crd.a)):=by unfold usL;rw [<-hmu,hN]
 have hNl:N.length<=1000:=by rw [<-hN,z_iO,Ten.m,List.length_map,List.length_map];exact hL
 obtain ⟨hUl,hUa⟩:=z_tK (us:=T.us.map Crd.a) N (fun x hx=>by
  rw [<-hmu]
  rw [<-hN] at hx
  exact (z_bV _).mem_iff.1 hx)
 rw [<-hU] at hUl hUa
 rw [hN] at hA0 ⊢
 generalize usL (T.us.map Crd.a)=L at *
 refine z_ai (ι:=List ACrd×Fact) 2 (fun i=>[(0,.c (.v (.func (.yield l) #[] #[]))),(4,.c (.v (.map (some T.b)))),(13,.c (.v (.slice A' N.length c))),(14,.c (.v (.int .i64 (N.length:Int)))),(15,.c (.v (.int .i64 (i.1.length:Int))))]) (fun _=>[]) (fun i=>[trowF A' N c,i.2,R,roX (stoF S)])
  (fun i=>J i.1 i.2/\i.1=L.take i.1.length/\i.1.length<=N.length) (fun i=>N.length - i.1.length) ([],f0) ⟨hJ0,rfl,Nat.zero_le _⟩ (Ent.mk' ⟨rfl,rfl,rfl,rfl,rfl,trivial⟩ rfl (fun β w' hs=>(hs.keepB (List.nil_sublist _)).perm [0,2,3,4])) g ?_
 rintro ⟨pre,f⟩ ⟨hJ,hpre,hi⟩
 simp only at hJ hpre hi
 have hfo:=hJo _ _ hJ
 simp only
 refine BIf.dec (fun hlt=>?_) (fun hge=>?_)
 ·have hlt0:(pre.length:Int)<N.length:=hlt
  have hkl:pre.length<N.length:=by omega
  obtain ⟨x,hx,hxm⟩:=at_lt hkl
  obtain ⟨ad,hAd⟩:=hA0 (by omega)
  refine ⟨ad,pre.length,hAd,rfl,hkl,.string x,fun β w' hs=>?_,?_⟩
  ·have h:=z_am (hs.get 0 rfl)
   rw [hAd] at h
   exact Rd.cell1 h (by simp [hx])
  have hLx:=hUa _ _ hx
  have hxu:x∈T.m.map (·.1):=(z_bV _).mem_iff.1 (by rw [hN];exact hxm)
  rcases z_mE x T.us with ⟨U,d,V,eU,q0,q1,q2,q3,_⟩ | ⟨q1,_,_⟩
  rotate_left
  ·exact absurd q1 (z_gq hxu)
  rw [q3] at hLx
  have hcp: ∀ {w'},(stoF S).p w'->(crdF d).p w':=fun hp=>z_uB (z_lb hp hT) eU
  refine ⟨.pointer none,fun w=>z_kZ w,T.m,mlook T.m x,fun β w' hs=>z_mO (z_lb (roP (hs.get 3 rfl)) hT),rfl,?_⟩
  rw [show mlook T.m x=_ from q2]
  refine ⟨d.vs,rfl,fun β w' hs j v hv=>by rw [add2];exact bkc (z_vC (hcp (roP (hs.get 3 rfl)))) (by rw [Nat.zero_add];exact hv),?_⟩
  refine z_rO [] (fun β w' hs=>z_so w' d (z_ve (hcp (roP (hs.get 3 rfl)))) (z_sB (hcp (roP (hs.get 3 rfl)))) (hz d (by rw [eU];simp))) ?_
  rintro v Fs ⟨d',hd',hdz,rfl,rfl⟩
  refine ⟨_,[csF [d'],trowF A' N c,f,R,roX (stoF S)],fun β w' hs=>hs.toCs [0,1,2,3,4] rfl,?_⟩
  refine z_rL (X:=csF [d']) (x:=d.a) hY 2 3 0 rfl hJ hfo rfl rfl rfl (by decide) (by decide) (by decide) (fun β=>⟨d',hd',hdz,rfl,rfl,hLx⟩) ?_ ?_
  ·intro f2 hfo2 hJ2
   have e:(pre++[d.a]).length=pre.length+1:=by rw [List.length_append];rfl
   refine ⟨((pre.length+1:Nat):Int),by rw [wrap_i64 (by omega) (by omega)];rfl,?_⟩
   refine ⟨(pre++[d.a],f2),⟨hJ2,?_,by show (pre++[d.a]).length<=_;omega⟩,by show N.length - (pre++[d.a]).length<N.length - pre.length;omega,?_⟩
   ·show pre++[d.a]=L.take (pre++[d.a]).length
    rw [e,List.take_add_one,hLx,<-hpre]
    rfl
   ·simp only [e]
    exact Ent.mk' ⟨rfl,rfl,rfl,rfl,rfl,trivial⟩ rfl (fun β w' hs=>(hs.perm [1,0,2,3]).lower)
  ·intro f2 hfo2 hJ2 β w' hs
   exact (hs.keepB (List.nil_sublist _)).fin [0] ⟨f2,_,rfl,.inr ⟨_,hJ2,rfl⟩⟩ rfl rfl rfl ⟨hfo2,trivial⟩
 ·have hge0: ¬(pre.length:Int)<N.length:=hge
  intro β w' hs
  exact (hs.keepB (List.nil_sublist _)).fin [1] ⟨f,_,rfl,.inl ⟨pre,hJ,by rw [hpre,List.take_of_length_le (by omega)],rfl⟩⟩ rfl rfl rfl ⟨hfo,trivial⟩
def d0:List UInt8:=[108,97,115,116,32,48,10]
def last0:ByteArray:=mkS [108,97,115,116,32,48]
theorem z_uH:last0++(⟨#[10]⟩:ByteArray)=mkS d0:=by decide+kernel
theorem dec_0:decimS 0=mkS [48]:=by decide+kernel
def insL0 (pre:List ByteArray) (x:ByteArray) (args:Array Value) (X:Fact):Prop:=args= #[.string x]/\X=noF/\[last0][pre.length]?=some x
def l0End (S:Sto) (J Jx:List ByteArray->Fact->Prop) (Fs:List Fact):Prop:=
 ∃f Fs',Fs=f::Fs'/\((∃xs,J xs f/\xs=[last0]/\Fs'=[stoF S])\/(∃pre,Jx pre f/\Fs'=[stoF S]))
theorem z_qP (l:Nat) (w:World) (bx:Nat) (S:Sto) (hS:S.ts=[]) (hS0:S.last=0) (f0 R:Fact) (J Jx:List ByteArray->Fact->Prop) (hJ0:J [] f0) (hJo: ∀pre f,J pre f->f.own=true) (hRo:R.own=false) (hY:Yc Tryz.prog l J Jx R insL0)
  (hm:Mem w (f0::R::[bkF bx z_aa [ptr S.b],stoF S])):
  Con Tryz.prog z_cv #[.func (.yield l) #[] #[],.pointer (some ⟨bx,0,none⟩)] w [f0,bkF bx z_aa [ptr S.b],stoF S] (fun _ Fs=>l0End S J Jx Fs):=by
 have g:=z_eL w (Un [f0,bkF bx z_aa [ptr S.b],stoF S]) [bx]
 have hs0:Sat (z_bo w (Un [f0,bkF bx z_aa [ptr S.b],stoF S]) [bx]) (Va.of fun _=>bx) 1 [] (f0::R::[bkF bx z_aa [ptr S.b],stoF S]) w:=by
  refine hm.sat rfl (fun f hf ho k hk=>?_) ⟨Nat.le_refl 1,fun i hi=>by obtain rfl:i=0:=Nat.lt_one_iff.1 hi;rfl⟩
  simp only [List.mem_cons,List.not_mem_nil,or_false] at hf
  rcases hf with rfl | rfl | rfl | rfl
  ·exact ⟨_,by simp,hk⟩
  ·rw [hRo] at ho;cases ho
  ·exact ⟨bkF bx z_aa [ptr S.b],by simp,hk⟩
  ·exact ⟨stoF S,by simp,hk⟩
 have hs1:=hs0.toBk 2 rfl 0 Nat.zero_lt_one rfl
 refine z_ad (cx:=z_bo w (Un [f0,bkF bx z_aa [ptr S.b],stoF S]) [bx]) g z_hC rfl rfl (β:=Va.of fun _=>bx) [.c (.v (.func (.yield l) #[] #[])),.c (.p 0 0)] 1 _ _ rfl rfl hs1 ?_
 refine z_ak g z_fH (by kernel_rfl) [⟨1,135,[.v (.func (.yield l) #[] #[])]⟩,⟨0,z_aa,[.v (ptr S.b)]⟩] [] (Sub.of (List.Sublist.refl _) (List.nil_sublist _)) ?_
 refine z_af (v:= .int .u64 ((0:Nat):Int)) (fun β w' hs=>by
  have h:=z_tX w' S (hs.get 2 rfl) (hs.getLt 2 rfl)
  rw [hS0] at h
  exact h) ?_
 refine ⟨Sub.of (List.Sublist.refl _) (List.nil_sublist _),?_⟩
 refine z_af (v:= .string (mkS [48])) (fun β w' hs=>by
  have h:=z_n4 w' 0 (by decide)
  rw [dec_0] at h
  exact h) ?_
 refine ⟨Sub.of (List.Sublist.refl _) (List.nil_sublist _),?_⟩
 refine ⟨by show 5+1<=maxLen;rw [z_ag];decide,?_⟩
 refine z_bq (X:=noF) (x:=last0) hY 0 1 rfl hJ0 (hJo _ _ hJ0) rfl hRo (by decide) (fun β=>⟨by show #[Value.string (mkS [108,97,115,116,32]++mkS [48])]=_;rw [z_ap];rfl,rfl,rfl⟩) rfl (fun β w _=>⟨trivial,fun k hk=>hk.elim,fun k _ h=>h.elim⟩) ?_ ?_
 ·intro f2 hfo2 hJ2
  refine ⟨Sub.of (List.Sublist.refl _) (List.nil_sublist _),?_⟩
  refine z_ac [] (fun β w' hs=>z_ny w' S) ?_
  rintro v Fs ⟨by_,rfl,rfl⟩
  have hnm:S.names=[]:=List.length_eq_zero_iff.1 (by rw [S.names_len,hS];rfl)
  refine z_aB (α:=ByteArray) (ι:=Unit) (κ:=Unit) g rfl (cv:=[.pointer (some ⟨by_,0,none⟩)]) rfl (by kernel_rfl) 2 (Nat.le_refl 2) (fun _ _=>True) (fun _=>[⟨1,135,[.v (.func (.yield l) #[] #[])]⟩,⟨0,z_aa,[.v (ptr S.b)]⟩]) (fun _=>[f2]) (fun _=>⟨hfo2,trivial⟩) (fun _ _ _=>False) (fun _=>[]) (fun _=>[]) (fun _=>trivial) [bkF by_ z_aa [ptr S.b],stoF S] [] [R] ⟨rfl,rfl,trivial⟩ (fun g h=>by obtain rfl:=List.mem_singleton.1 h;exact hRo) () trivial (fun β w hs=>⟨β,Agr.refl _ _,hs.perm [0,3,1,2]⟩) (insN S.names) (fun xs Fs'=>xs=S.names/\Fs'=[stoF S]) (fun pre Fs'=>Fs'=[stoF S]) (fun l w f0 R J Jx h1 h2 h3 h4 h5=>(z_vE l w by_ S f0 R J Jx (by unfold Sto.ml;rw [hS];exact ⟨List.Pairwise.nil,fun _ h=>by cases h⟩) (by rw [hS];exact Nat.zero_le _) h1 h2 h3 h4 h5).mono fun _ _ h=>h) ?_ ?_ ?_
  ·rintro i pre x args X W S0 l0 bs pn pn' _ _ ⟨_,_,h⟩
   rw [hnm] at h
   cases h
  ·rintro xs i Fs _ ⟨_,rfl⟩
   intro β w' hs
   exact (hs.keepB (List.nil_sublist _)).fin [1,0] ⟨f2,_,rfl,.inl ⟨_,hJ2,rfl,rfl⟩⟩ rfl rfl rfl ⟨hfo2,rfl,trivial⟩
  ·rintro e pre j Fs h
   exact h.elim
 ·intro f2 hfo2 hJ2
  refine ⟨Sub.of (List.Sublist.refl _) (List.nil_sublist _),?_⟩
  intro β w' hs
  exact (hs.keepB (List.nil_sublist _)).fin [0,2] ⟨f2,_,rfl,.inr ⟨_,hJ2,rfl⟩⟩ rfl rfl rfl ⟨hfo2,rfl,trivial⟩
theorem z_j0 (w:World) (S:Sto):Con Tryz.prog z_jU #[ptr S.b] w [] (fun v Fs=> ∃bx,v= .func (.func z_cv) #[] #[.pointer (some ⟨bx,0,none⟩)]/\Fs=[bkF bx z_aa [ptr S.b]]):=by
 refine z_ad (cx:=z_i6 w (Un [])) (z_kU w (Un [])) z_n9 rfl rfl (β:=Va.z) [.c (.v (ptr S.b))] 0 [] [] rfl rfl (Sat.start rfl) ?_
 intro β w' hs
 exact hs.ofBk.fin [0] ⟨β 0,rfl,rfl⟩
structure DSt where
 p:Value
 A:Option Addr
 l:List UInt8
 c:Nat
def lnB (L:List ByteArray):List UInt8:=L.flatMap fun x=>x.data.toList++[10]
theorem z_oA (w:World) (S:Sto) (hS:S.ts=[]) (hS0:S.last=0) (hm:Mem w [stoF S,oddF 2,firstF 0]):Con Tryz.prog z_fA #[ptr S.b] w [stoF S] (fun v Fs=>v= .string (mkS (d0++sumL d0))/\Fs=[stoF S]):=by
 have g:=z_hH w (Un [stoF S])
 refine z_d2 (cx:=z_gg w (Un [stoF S])) g z_kI [.c (.v (ptr S.b))] [oddF 2,firstF 0] hm ?_
 refine z_ac [] (fun β w' hs=>z_j0 w' S) ?_
 rintro v Fs ⟨bx,rfl,rfl⟩
 refine z_ds g 0 (fun _=>[.pointer none,.slice none 0 0]) rfl rfl (fun _=>rfl) (fun b=>?_)
 refine z_aB (α:=ByteArray) (ι:=DSt) (κ:=Unit) g rfl (cv:=[.pointer (some ⟨bx,0,none⟩)]) rfl (by kernel_rfl) 1 (Nat.le_refl 1) (fun pre i=>i.l=lnB pre/\(i.p= .pointer none\/i.p=selfV b)) (fun _=>[]) (fun i=>bldF b i.p i.A i.l i.c) (fun _=>⟨rfl,rfl,trivial⟩) (fun _ _ _=>False) (fun _=>[]) (fun _=>[]) (fun _=>trivial) [bkF bx z_aa [ptr S.b],stoF S] [] [oddF 2,firstF 0] ⟨rfl,rfl,trivial⟩ (fun g h=>by
   simp only [List.mem_cons,List.not_mem_nil,or_false] at h
   rcases h with rfl | rfl<;>rfl) ⟨.pointer none,none,[],0⟩ ⟨rfl,.inl rfl⟩ (fun β w hs=>⟨β,Agr.refl _ _,?_⟩) insL0 (fun xs Fs'=>xs=[last0]/\Fs'=[stoF S]) (fun pre Fs'=>Fs'=[stoF S]) (fun l w f0 R J Jx h1 h2 h3 h4 h5=>(z_qP l w bx S hS hS0 f0 R J Jx h1 h2 h3 h4 h5).mono fun _ _ h=>h) ?_ ?_ ?_
 ·exact (hs.nilRow z_ab 1).perm [2,3,1,0,4,5]
 ·rintro ⟨p,A,l,c⟩ pre x args X W S0 l0 bs pn pn' hbs ⟨hl,hp⟩ ⟨rfl,rfl,hx⟩
  simp only at hl hp
  have hxl:x=last0/\pre=[]:=by
   cases pre with
   | nil=>exact ⟨(Option.some.inj hx).symm,rfl⟩
   | cons a t=>cases hx
  obtain ⟨rfl,rfl⟩:=hxl
  obtain rfl:l=[]:=hl
  refine ⟨_,rfl,?_⟩
  refine ⟨by show 6+1<=maxLen;rw [z_ag];decide,?_⟩
  refine z_ac [1,2] (fun β w' hs=>by
   have h:=z_ju w' b p A [] c d0 hp (by decide) (by decide) (hs.mem.take (js:=[1,2]) rfl)
   rw [<-z_uH] at h
   exact h) ?_
  rintro v Fs ⟨rfl,A2,c2,rfl⟩
  refine ⟨⟨selfV b,A2,d0,c2⟩,⟨by show d0=lnB [last0];decide,.inr rfl⟩,Ent.mk' trivial rfl (fun β w' hs=>?_)⟩
  exact hs.perm [0,1]
 ·rintro xs ⟨p,A,l,c⟩ Fs ⟨hl,hp⟩ ⟨rfl,rfl⟩
  simp only at hl hp
  obtain rfl:l=d0:=hl.trans (by decide)
  refine z_ac [1,2] (fun β w' hs=>z_si w' b p A d0 c (by decide) (hs.mem.take (js:=[1,2]) rfl)) ?_
  rintro v Fs ⟨rfl,gb,rfl,h1,h2,rfl⟩
  refine z_ac [0,1] (fun β w' hs=>z_rx w' b gb p d0 c (by decide) h1 h2 (hs.mem.take (js:=[0,1]) rfl)) ?_
  rintro v Fs ⟨rfl,rfl⟩
  refine z_af (v:= .string (mkS (sumL d0))) (fun β w' hs=>z_eK w' d0 (by decide) (hs.get 3 rfl) (hs.get 4 rfl)) ?_
  refine ⟨by show 7+(sumL d0).length<=maxLen;rw [z_ct,z_ag];decide,?_⟩
  intro β w' hs
  refine hs.fin [2] ⟨?_,rfl⟩
  show Value.string (mkS d0++mkS (sumL d0))=_
  rw [z_ap]
 ·rintro e pre j Fs h
  exact h.elim
def usO (S:Sto) (t:ByteArray):List ACrd:=match tenO S.ts t with | some T=>usL (T.us.map Crd.a) | none=>[]
def tenB:ByteArray:=mkS [116,101,110,97,110,116,32]
def rlB:ByteArray:=mkS [108,97,115,116,32]
def tlA (S:Sto) (ln:ACrd->ByteArray) (t:ByteArray):List ByteArray:=(tenB++t)::(usO S t).map ln
def lnsA (S:Sto) (ln:ACrd->ByteArray):List ByteArray:=(rlB++decimS S.last)::S.names.flatMap (tlA S ln)
theorem z_mQ {α:Type} {N:List α} {pre:List α} {x:α} (hp:pre=N.take pre.length) (hx:N[pre.length]?=some x):N=pre++x::N.drop (pre.length+1):=by
 conv=>lhs;rw [<-List.take_append_drop pre.length N,<-hp]
 obtain ⟨h,e⟩:=List.getElem?_eq_some_iff.1 hx
 rw [List.drop_eq_getElem_cons h,e]
theorem z_t6 {α:Type} {L a b:List α} {x:α} (h:L=a++x::b):L[a.length]?=some x:=by rw [h];simp
theorem z_mK {α:Type} {N:List α} {pre:List α} {x:α} (hp:pre=N.take pre.length) (hx:N[pre.length]?=some x):pre++[x]=N.take (pre++[x]).length:=by
 rw [List.length_append]
 show _=N.take (pre.length+1)
 rw [List.take_add_one,hx,<-hp]
 rfl
structure OwF where
 f:Fact
 o:f.own=true
structure LnOk (c:ACrd):Prop where
 u0:c.user.data.toList≠[]
 u:c.user.size<=32
 s:rightA c.sec=true
 g:c.gen<=greatN
 n:c.roles.length<=8
 r: ∀r∈c.roles,r.size<=32
def TenOk (S:Sto) (t:ByteArray):Prop:= ∃A B T,S.ts=A++T::B/\tenO S.ts t=some T/\KeysOk T.m/\T.us.length<=1000/\(∀c∈T.us,CSz c.a)/\t.size<=100000/\(∀c∈T.us,LnOk c.a)
def insRm (L:List ByteArray) (pre:List ByteArray) (x:ByteArray) (args:Array Value) (X:Fact):Prop:=args= #[.string x]/\X=noF/\L[pre.length]?=some x
def lnsEnd (L:List ByteArray) (J Jx:List ByteArray->Fact->Prop) (Fs:List Fact):Prop:=
 ∃f Fs',Fs=f::Fs'/\((∃xs,J xs f/\xs=L/\Fs'=[])\/(∃pre,Jx pre f/\Fs'=[]))
set_option maxHeartbeats 2000000 in
theorem z_vm (l:Nat) (w:World) (bx:Nat) (S:Sto) (ln:ACrd->ByteArray) (Q:Fact) (hQo:Q.own=false) (hok:KeysOk S.ml) (hL:S.ts.length<=1000) (hT: ∀t∈S.names,TenOk S t) (hds:(decimS S.last).size<=100)
  (hdec: ∀w,Q.p w->Pu Tryz.prog z_dv #[.int .u64 (S.last:Int)] w (.string (decimS S.last)))
  (hln: ∀w (c:Crd),RolOk c->LnOk c.a->Mem w [csF [c],Q]->Pu Tryz.prog z_fk #[.agg c.vs.toArray] w (.string (ln c.a)))
  (f0 R:Fact) (J Jx:List ByteArray->Fact->Prop) (hJ0:J [] f0) (hJo: ∀pre f,J pre f->f.own=true) (hRo:R.own=false) (hY:Yc Tryz.prog l J Jx R (insRm (lnsA S ln)))
  (hm:Mem w (f0::R::[bkF bx z_aa [ptr S.b],roX (stoF S),Q])):
  Con Tryz.prog z_cv #[.func (.yield l) #[] #[],.pointer (some ⟨bx,0,none⟩)] w [f0,bkF bx z_aa [ptr S.b]] (fun _ Fs=>lnsEnd (lnsA S ln) J Jx Fs):=by
 have g:=z_eL w (Un [f0,bkF bx z_aa [ptr S.b]]) [bx]
 have hs0:Sat (z_bo w (Un [f0,bkF bx z_aa [ptr S.b]]) [bx]) (Va.of fun _=>bx) 1 [] (f0::R::[bkF bx z_aa [ptr S.b],roX (stoF S),Q]) w:=by
  refine hm.sat rfl (fun f hf ho k hk=>?_) ⟨Nat.le_refl 1,fun i hi=>by obtain rfl:i=0:=Nat.lt_one_iff.1 hi;rfl⟩
  simp only [List.mem_cons,List.not_mem_nil,or_false] at hf
  rcases hf with rfl | rfl | rfl | rfl | rfl
  ·exact ⟨_,by simp,hk⟩
  ·rw [hRo] at ho;cases ho
  ·exact ⟨bkF bx z_aa [ptr S.b],by simp,hk⟩
  ·cases ho
  ·rw [hQo] at ho;cases ho
 have hs1:=hs0.toBk 2 rfl 0 Nat.zero_lt_one rfl
 refine z_ad (cx:=z_bo w (Un [f0,bkF bx z_aa [ptr S.b]]) [bx]) g z_hC rfl rfl (β:=Va.of fun _=>bx) [.c (.v (.func (.yield l) #[] #[])),.c (.p 0 0)] 1 _ _ rfl rfl hs1 ?_
 refine z_ak g z_fH (by kernel_rfl) [⟨1,135,[.v (.func (.yield l) #[] #[])]⟩,⟨0,z_aa,[.v (ptr S.b)]⟩] [] (Sub.of (List.Sublist.refl _) (List.nil_sublist _)) ?_
 refine z_af (v:= .int .u64 (S.last:Int)) (fun β w' hs=>z_tX w' S (roP (hs.get 2 rfl)) (fun k hk=>hs.flt (roX (stoF S)) (List.mem_of_getElem? (i:=2) rfl) k hk)) ?_
 refine ⟨Sub.of (List.Sublist.refl _) (List.nil_sublist _),?_⟩
 refine z_af (v:= .string (decimS S.last)) (fun β w' hs=>hdec w' (hs.get 3 rfl)) ?_
 refine ⟨Sub.of (List.Sublist.refl _) (List.nil_sublist _),?_⟩
 refine ⟨by show 5+_<=maxLen;rw [z_ag];omega,?_⟩
 refine z_bq (X:=noF) (x:=rlB++decimS S.last) hY 0 1 rfl hJ0 (hJo _ _ hJ0) rfl hRo (by decide) (fun β=>⟨rfl,rfl,rfl⟩) rfl (fun β w _=>⟨trivial,fun k hk=>hk.elim,fun k _ h=>h.elim⟩) ?_ ?_
 rotate_left
 ·intro f2 hfo2 hJ2
  refine ⟨Sub.of (List.Sublist.refl _) (List.nil_sublist _),?_⟩
  intro β w' hs
  exact (hs.keepB (List.nil_sublist _)).fin [0] ⟨f2,_,rfl,.inr ⟨_,hJ2,rfl⟩⟩ rfl rfl rfl ⟨hfo2,trivial⟩
 intro f2 hfo2 hJ2
 refine ⟨Sub.of (List.Sublist.refl _) (List.nil_sublist _),?_⟩
 refine z_ac [] (fun β w' hs=>z_ny w' S) ?_
 rintro v Fs ⟨by_,rfl,rfl⟩
 refine z_aB (α:=ByteArray) (ι:=List ByteArray×OwF) (κ:=List ByteArray×OwF) g rfl (cv:=[.pointer (some ⟨by_,0,none⟩)]) rfl (by kernel_rfl) 2 (Nat.le_refl 2)
  (fun pre i=>J i.1 i.2.f/\pre=S.names.take pre.length/\i.1=(rlB++decimS S.last)::pre.flatMap (tlA S ln)) (fun _=>[⟨1,135,[.v (.func (.yield l) #[] #[])]⟩,⟨0,z_aa,[.v (ptr S.b)]⟩]) (fun i=>[i.2.f]) (fun i=>⟨i.2.o,trivial⟩)
  (fun e _ j=>e= .ret/\Jx j.1 j.2.f) (fun _=>[]) (fun j=>[j.2.f]) (fun j=>⟨j.2.o,trivial⟩) [bkF by_ z_aa [ptr S.b]] [roX (stoF S)] [R,roX (stoF S),Q] ⟨rfl,trivial⟩ (fun g h=>by
   simp only [List.mem_cons,List.not_mem_nil,or_false] at h
   rcases h with rfl | rfl | rfl
   ·exact hRo
   ·rfl
   ·exact hQo) ([rlB++decimS S.last],⟨f2,hfo2⟩) ⟨hJ2,rfl,rfl⟩ (fun β w hs=>⟨β,Agr.refl _ _,?_⟩) (insN S.names) (fun xs Fs'=>xs=S.names/\Fs'=[]) (fun pre Fs'=>Fs'=[]) (fun l w f0 R J Jx h1 h2 h3 h4 h5=>(z_uP l w by_ S f0 R J Jx hok hL h1 h2 h3 h4 h5).mono fun _ _ h=>h) ?_ ?_ ?_
 ·exact (hs.sub 3 rfl rfl (roX (stoF S)) rfl (hs.get 3 rfl) (fun _ h=>h)).perm [1,0,2,3,4,5]
 ·rintro ⟨ls,f,hfo⟩ pre x args X W S0 l0 bs pn pn' hbs ⟨hJ,hpre,hls⟩ ⟨rfl,rfl,hx⟩
  simp only at hJ hpre hls
  obtain ⟨A,B,T,hA,hTo,hTk,hTl,hTz,hts,hTn⟩:=hT x (List.mem_of_getElem? hx)
  have hN:=z_mQ hpre hx
  have hLx:lnsA S ln=ls++(tenB++x)::((usO S x).map ln++(S.names.drop (pre.length+1)).flatMap (tlA S ln)):=by
   unfold lnsA
   rw [hls]
   conv=>lhs;rw [hN]
   simp [tlA]
  refine ⟨_,rfl,?_⟩
  refine ⟨by show 7+x.size<=maxLen;rw [z_ag];omega,?_⟩
  refine z_bq (X:=noF) (x:=tenB++x) hY 1 2 rfl hJ hfo rfl hRo (by decide) (fun β=>⟨rfl,rfl,z_t6 hLx⟩) rfl (fun β w _=>⟨trivial,fun k hk=>hk.elim,fun k _ h=>h.elim⟩) ?_ ?_
  rotate_left
  ·intro f3 hfo3 hJ3
   exact ⟨(ls++[tenB++x],⟨f3,hfo3⟩),⟨rfl,hJ3⟩,Ent.mk' trivial rfl (fun β w' hs=>(hs.keepB (List.nil_sublist _)).perm [0])⟩
  intro f3 hfo3 hJ3
  refine z_ac [] (fun β w' hs=>z_tl w' S x) ?_
  rintro v Fs ⟨b1,b2,rfl,rfl⟩
  have hU:usO S x=usL (T.us.map Crd.a):=by unfold usO;rw [hTo]
  rw [hU] at hLx
  refine z_aB (α:=ACrd) (ι:=List ByteArray×OwF) (κ:=List ByteArray×OwF) (z_bs g) rfl (cv:=[.pointer (some ⟨b1,0,none⟩),.pointer (some ⟨b2,0,none⟩)]) rfl (by kernel_rfl) 2 (Nat.le_refl 2)
   (fun pre2 i=>J i.1 i.2.f/\pre2=(usL (T.us.map Crd.a)).take pre2.length/\i.1=ls++(tenB++x)::pre2.map ln) (fun _=>[⟨1,135,[.v (.func (.yield l) #[] #[])]⟩,⟨0,z_aa,[.v (ptr S.b)]⟩]) (fun i=>[i.2.f]) (fun i=>⟨i.2.o,trivial⟩)
   (fun e _ j=>e= .ret/\Jx j.1 j.2.f) (fun _=>[]) (fun j=>[j.2.f]) (fun j=>⟨j.2.o,trivial⟩) [bkF b1 z_aa [ptr S.b],bkF b2 z_ah [.string x]] [roX (stoF S)] [R,roX (stoF S),Q] ⟨rfl,rfl,trivial⟩ (fun g h=>by
    simp only [List.mem_cons,List.not_mem_nil,or_false] at h
    rcases h with rfl | rfl | rfl
    ·exact hRo
    ·rfl
    ·exact hQo) (ls++[tenB++x],⟨f3,hfo3⟩) ⟨hJ3,rfl,rfl⟩ (fun β w hs=>⟨β,Agr.refl _ _,?_⟩) (insZ (usL (T.us.map Crd.a))) (fun xs Fs'=>xs=usL (T.us.map Crd.a)/\Fs'=[]) (fun pre Fs'=>Fs'=[]) (fun l w f0 R J Jx h1 h2 h3 h4 h5=>(z_vd l w b1 b2 S x f0 R J Jx hA hTo hTk hTl hTz h1 h2 h3 h4 h5).mono fun _ _ h=>h) ?_ ?_ ?_
  ·exact (hs.sub 5 rfl rfl (roX (stoF S)) rfl (hs.get 5 rfl) (fun _ h=>h)).perm [1,2,0,3,5,6,7]
  ·rintro ⟨ls2,f,hfo2⟩ pre2 y args X2 W2 S2 l2 bs2 pm pm' hbs2 ⟨hJ,hpre2,hls2⟩ ⟨c,rfl,hcr,rfl,rfl,hy⟩
   simp only at hJ hpre2 hls2
   have hU2:=z_mQ hpre2 hy
   have hcn:LnOk c.a:=by
    have hm:=List.mem_of_getElem? hy
    unfold usL at hm
    obtain ⟨u,_,hu⟩:=List.mem_filterMap.1 hm
    obtain ⟨_,U,V,hUV,_⟩:=z_gc hu
    have hcm:c.a∈T.us.map Crd.a:=by rw [hUV];simp
    obtain ⟨d,hd,hdc⟩:=List.mem_map.1 hcm
    rw [<-hdc]
    exact hTn d hd
   have hLy:lnsA S ln=ls2++ln c.a::(((usL (T.us.map Crd.a)).drop (pre2.length+1)).map ln++(S.names.drop (pre.length+1)).flatMap (tlA S ln)):=by
    rw [hLx,hls2]
    conv=>lhs;rw [hU2]
    simp
   refine ⟨_,rfl,?_⟩
   refine z_ak (z_bs (z_bs g)) z_kj (by kernel_rfl) [⟨2,100,c.vs.map SL.v⟩,⟨1,135,[.v (.func (.yield l) #[] #[])]⟩] [] (Sub.of (((List.nil_sublist _).cons_cons _).cons_cons _) (List.nil_sublist _)) ?_
   refine z_af (v:= .string (ln c.a)) (fun β w' hs=>hln w' c hcr hcn (hs.mem.take (js:=[0,4]) rfl)) ?_
   refine ⟨Sub.of (((List.nil_sublist _).cons_cons _).cons_cons _) (List.nil_sublist _),?_⟩
   refine z_bq (X:=noF) (x:=ln c.a) hY 1 2 rfl hJ hfo2 rfl hRo (by decide) (fun β=>⟨rfl,rfl,z_t6 hLy⟩) rfl (fun β w _=>⟨trivial,fun k hk=>hk.elim,fun k _ h=>h.elim⟩) ?_ ?_
   rotate_left
   ·intro f4 hfo4 hJ4
    refine ⟨Sub.of (((List.nil_sublist _).cons_cons _).cons_cons _) (List.nil_sublist _),?_⟩
    exact ⟨(ls2++[ln c.a],⟨f4,hfo4⟩),⟨rfl,hJ4⟩,Ent.mk' trivial rfl (fun β w' hs=>((hs.keepB (List.nil_sublist _)).perm [0]).lower)⟩
   intro f4 hfo4 hJ4
   refine ⟨Sub.of (((List.nil_sublist _).cons_cons _).cons_cons _) (List.nil_sublist _),?_⟩
   refine ⟨(ls2++[ln c.a],⟨f4,hfo4⟩),⟨hJ4,z_mK hpre2 hy,by show ls2++[ln c.a]=_;rw [hls2];simp⟩,Ent.mk' trivial rfl (fun β w' hs=>?_)⟩
   exact ((hs.keepB (List.sublist_cons_self _ _)).perm [0]).lower
  ·rintro xs ⟨ls2,f,hfo2⟩ Fs ⟨hJ,hpre2,hls2⟩ ⟨rfl,rfl⟩
   simp only at hJ hpre2 hls2
   refine ⟨(ls2,⟨f,hfo2⟩),⟨hJ,z_mK hpre hx,?_⟩,Ent.mk' trivial rfl (fun β w' hs=>hs.perm [0])⟩
   show ls2=_
   rw [hls2,hls,List.flatMap_append,List.cons_append]
   simp [tlA,hU]
  ·rintro e pre2 ⟨ls2,f,hfo2⟩ Fs ⟨rfl,hJ⟩ rfl
   exact ⟨(ls2,⟨f,hfo2⟩),⟨rfl,hJ⟩,Ent.mk' trivial rfl (fun β w' hs=>hs.perm [0])⟩
 ·rintro xs ⟨ls,f,hfo⟩ Fs ⟨hJ,hpre,hls⟩ ⟨rfl,rfl⟩
  intro β w' hs
  exact (hs.keepB (List.nil_sublist _)).fin [0] ⟨f,[],rfl,.inl ⟨ls,hJ,hls,rfl⟩⟩ rfl rfl rfl ⟨hfo,trivial⟩
 ·rintro e pre ⟨ls,f,hfo⟩ Fs ⟨rfl,hJ⟩ rfl
  intro β w' hs
  exact (hs.keepB (List.nil_sublist _)).fin [0] ⟨f,[],rfl,.inr ⟨ls,hJ,rfl⟩⟩ rfl rfl rfl ⟨hfo,trivial⟩
end Go.Proofs.YtloeaiafphkjnaaGreatDoor.Sx
namespace Go.Proofs.YtloeaiafphkjnaaGreatDoor.Sx
open Go Go.RowKit Go.Sort
attribute [local irreducible] Calls
set_option maxRecDepth 100000 in
set_option maxHeartbeats 1000000 in
theorem fmtG (u : Nat) (h100 : 100 ≤ u) (hu64 : u < 18446744073709551616) (w : World) (htab : Lib.TabIs Tryz.prog w "internal/strconv.uint64pow10" .u64 Lib.pow10Tab) :
  Calls Tryz.prog 172 #[.int .u64 u,.int .i64 10] w fun e w'=>e= .returned (.string ⟨(Lib.decDigits u).toArray⟩)/\ ∃k os,w'=grow (w.drewN k) os:=by
 have hu1:1<=u:=by omega
 have hnd20:Lib.nDigits u<=20:=by have:=Lib.numDigits_eq u hu1 hu64;split at this<;>omega
 have hb3:Lib.nDigits u<=24:=by omega
 have hal:Tryz.prog.arrayLen 244=24:=by simp [Program.arrayLen,Tryz.underlying244]
 have hsl1: ∀W,(Instr.sliceAt 244 (.pointer (some ⟨w.heap.size,0,none⟩)) none (some (.int .i64 (Lib.nDigits u:Int))) none).run Tryz.prog W= .ok (.slice (some ⟨w.heap.size,0,none⟩) (Lib.nDigits u) 24) W:=fun W=>by
  rw [run_sliceAt_array_h W 244 ⟨w.heap.size,0,none⟩ (by simp [Program.arrayLen,Program.elem,Tryz.underlying244]) .i64 (Lib.nDigits u:Int) (by omega) (by rw [hal];omega)]
  go_simp
 have hH0:Holds (fun (b:UInt8)=>Value.int .u8 (b.toNat:Int)) (w.alloc (.cells Lib.zeros24 244)) w.heap.size 0 (Array.replicate (Lib.nDigits u) (0:UInt8)):=fun j hj=>by
  have hj':j<Lib.nDigits u:=by simpa using hj
  refine ⟨?_,World.frozen?_alloc_new _ _ _ _⟩
  rw [World.cell?_alloc_new,Lib.zeros24_at _ (by omega),getElem!_pos _ j hj]
  simp
 have hfmt:=Tryz.internal_strconv_formatBase10 w.heap.size 0 24 u (Array.replicate (Lib.nDigits u) 0) (w.alloc (.cells Lib.zeros24 244)) hH0 (by rw [Array.size_replicate];exact Lib.lt_pow_nDigits u) hu64 (by rw [Array.size_replicate];omega)
 rw [Array.size_replicate] at hfmt
 have HH0:=Lib.hid hH0
 clear hH0 hal
 have e1: ∀args w,(callFunc 209 args).run Tryz.prog w= .ok (.enter 209 args) w:=enters_of Tryz.func209 (by kernel_rfl) rfl
 have e2: ∀args w,(callFunc 210 args).run Tryz.prog w= .ok (.enter 210 args) w:=enters_of Tryz.func210 (by kernel_rfl) rfl
 go_enter Tryz.func172,Tryz.ntmps172
 go_wp2_with (first
  | (go_at_fn 209;refine (Tryz.internal_strconv_numDigits u hu1 hu64 _ (Lib.tabIs_alloc htab _)).mono ?_;rintro e w' ⟨rfl,rfl⟩))
 go_at_fn 210
 refine hfmt.mono ?_
 rintro e w' ⟨rfl,k,v',dk,rfl,hF⟩
 have hcv:(convert 43 9 (.slice (some ⟨w.heap.size,0,none⟩) (Lib.nDigits u) 24)).run Tryz.prog ((putRow (fun (b:UInt8)=>Value.int .u8 (b.toNat:Int)) (w.alloc (.cells Lib.zeros24 244)) w.heap.size 0 dk).drewN k)= .ok (.string ⟨(Lib.decDigits u).toArray⟩) ((putRow (fun (b:UInt8)=>Value.int .u8 (b.toNat:Int)) (w.alloc (.cells Lib.zeros24 244)) w.heap.size 0 dk).drewN k):=by
  have h:=run_convert_bytes_back (P:=Tryz.prog) ((putRow (fun (b:UInt8)=>Value.int .u8 (b.toNat:Int)) (w.alloc (.cells Lib.zeros24 244)) w.heap.size 0 dk).drewN k) 43 9 5 ⟨w.heap.size,0,none⟩ 24 (Lib.decDigits u) Tryz.underlying43 Tryz.underlying5 Tryz.underlying9 (fun j hj=>by
   rw [Lib.row_is_numeral hF j hj,Lib.add_plain,World.cell?_drewN]
   exact cell?_putRow (fun (b:UInt8)=>Value.int .u8 (b.toNat:Int)) _ w.heap.size 0 _ dk HH0.out (by rw [hF.size,Array.size_replicate]) j (by rw [hF.size];rw [Lib.decDigits_length] at hj;exact hj))
  rw [Lib.decDigits_length] at h
  exact h
 go_wp2
 go_ret
 have eo: ∃os,(putRow (fun (b:UInt8)=>Value.int .u8 (b.toNat:Int)) (w.alloc (.cells Lib.zeros24 244)) w.heap.size 0 dk).drewN k=grow (w.drewN k) os:=by
  rw [alloc_eq_grow]
  obtain ⟨os',_,e⟩:=putRow_grow_new (fun (b:UInt8)=>Value.int .u8 (b.toNat:Int)) w #[_] w.heap.size 0 dk (Nat.le_refl _)
  exact ⟨os',by rw [e];rfl⟩
 obtain ⟨os,eo⟩:=eo
 exact ⟨rfl,k,os,eo⟩
def powF:Fact where
 own:=false
 D:=fun k=>k=7
 p := fun w => Lib.TabIs Tryz.prog w "internal/strconv.uint64pow10" .u64 Lib.pow10Tab
 st:=fun w w' hs h=>by
  have hg : Tryz.prog.globalNamed "internal/strconv.uint64pow10" = some 7 := by kernel_rfl
  unfold Lib.TabIs World.var? at h ⊢
  rw [hg] at h ⊢
  simp only [Option.bind_some] at h ⊢
  rw [hs _ rfl]
  exact h
theorem z_tn (w:World) (k:Nat) (os:Array Obj):Chg None_ w (grow (w.drewN k) os):=by
 refine ⟨rfl,rfl,rfl,?_,fun i hi _=>?_⟩
 ·simp [grow]
 ·simp [grow,Array.getElem?_append,hi]
theorem z_ut (w:World) (u:Nat) (hu:u<18446744073709551616) (hp:powF.p w):Pu Tryz.prog z_aF #[.int .u64 (u:Int),.int .i64 10] w (.string (decimS u)):=by
 by_cases h:u<100
 ·exact z_t4 w u h
 ·refine pu_of (Calls.mono (fmtG u (by omega) hu w hp) ?_)
  rintro e w' ⟨rfl,k,os,rfl⟩
  exact ⟨_,rfl,rfl,z_tn w k os⟩
theorem z_uk (w:World) (u:Nat) (hu:u<18446744073709551616) (hm:Mem w [powF]):Pu Tryz.prog z_bw #[.int .u64 (u:Int),.int .i64 10] w (.string (decimS u)):=by
 refine z_d2 (cx:=z_bf w (Un [])) (z_b6 w (Un [])) z_c4 [.c (.v (.int .u64 (u:Int))),.c (.v (.int .i64 10))] [powF] hm ?_
 refine z_af (fun β w' hs=>z_ut w' u hu (hs.get 0 rfl)) ?_
 intro β w' hs
 exact hs.fin [] ⟨rfl,rfl⟩
theorem z_du (w:World) (u:Nat) (hu:u<18446744073709551616) (hm:Mem w [powF]):Pu Tryz.prog z_dv #[.int .u64 (u:Int)] w (.string (decimS u)):=by
 refine z_d2 (cx:=z_hO w (Un [])) (z_iT w (Un [])) z_mp [.c (.v (.int .u64 (u:Int)))] [powF] hm ?_
 refine z_af (v:= .string (decimS u)) (fun β w' hs=>z_uk w' u hu hs.mem) ?_
 intro β w' hs
 exact hs.fin [] ⟨rfl,rfl⟩
theorem z_fb {w:World} (h:powF.p w):Mem w [powF]:=by
 refine ⟨fun f hf=>by obtain rfl:=List.mem_singleton.1 hf;exact h,fun f hf k hk=>?_,List.pairwise_singleton _ _⟩
 obtain rfl:=List.mem_singleton.1 hf
 obtain rfl:k=7:=hk
 have hg : Tryz.prog.globalNamed "internal/strconv.uint64pow10" = some 7 := by kernel_rfl
 have h' : w.var? Tryz.prog "internal/strconv.uint64pow10" = some _ := h
 unfold World.var? at h'
 rw [hg] at h'
 simp only [Option.bind_some] at h'
 split at h'
 ·rename_i q;exact (Array.getElem?_eq_some_iff.1 q).1
 ·cases h'
end Go.Proofs.YtloeaiafphkjnaaGreatDoor.Sx
namespace Go.Proofs.YtloeaiafphkjnaaGreatDoor.Sx
open Go
attribute [local irreducible] Calls
theorem jn_le {d:UInt8} {k:Nat}: ∀ {L:List (List UInt8)},(∀x∈L,x.length<=k)->(jn d L).length<=L.length*(k+1)
 | [],_=>Nat.zero_le _
 | [a],h=>by
  have:=h a (by simp)
  show a.length<=1*(k+1)
  omega
 | a::b::r,h=>by
  have ih:=jn_le (d:=d) (L:=b::r) (fun x hx=>h x (List.mem_cons_of_mem _ hx))
  have:=h a (by simp)
  rw [z_ma]
  simp only [List.length_append,List.length_cons,Nat.add_mul] at ih ⊢
  omega
theorem z_m0 (d:UInt8) (l:List ByteArray):joinB l ⟨#[d]⟩=mkS (jn d (l.map fun r=>r.data.toList)):=by
 unfold joinB
 rw [<-z_nk]
 rfl
theorem z_ph {l:List ByteArray} (h8:l.length<=8) (hs: ∀r∈l,r.size<=32):(rolB l).length<=264:=by
 unfold rolB
 split
 ·decide
 ·have:=jn_le (d:=44) (k:=32) (L:=l.map fun r=>r.data.toList) (fun x hx=>by
   obtain ⟨r,hr,rfl⟩:=List.mem_map.1 hx
   exact hs r hr)
  rw [List.length_map] at this
  omega
theorem z_rf (w:World) (A:Option Addr) (l:List ByteArray) (c:Nat) (hA:l≠[]-> ∃b,A=some ⟨b,0,none⟩) (hc:l.length<=c) (h8:l.length<=8) (hs_: ∀r∈l,r.size<=32) (hm:Mem w [rdF 1 A l.length (strs l)]):
  Pu Tryz.prog z_jW #[.slice A l.length c] w (.string (mkS (rolB l))):=by
 have g:=z_kK w (Un [])
 refine z_d2 (cx:=z_je w (Un [])) g z_ng [.c (.v (.slice A l.length c))] [rdF 1 A l.length (strs l)] hm ?_
 refine BIf.dec (fun h0=>?_) (fun h0=>?_)
 ·have h00:(l.length:Int)=0:=h0
  have hl:l=[]:=List.length_eq_zero_iff.1 (by omega)
  intro β w' hs
  refine hs.fin [] ⟨?_,rfl⟩
  rw [hl]
  rfl
 ·have h00: ¬(l.length:Int)=0:=h0
  have hl:l≠[]:=fun e=>h00 (by rw [e];rfl)
  obtain ⟨b,rfl⟩:=hA hl
  have hlen:=z_ph h8 hs_
  have hr:rolB l=jn 44 (l.map fun r=>r.data.toList):=by unfold rolB;rw [if_neg hl]
  refine z_af (v:= .string (mkS (rolB l))) (fun β w' hs=>by
   have h:=z_q2 w' b c l ⟨#[44]⟩ (hs.get 0 rfl) (hs.flt _ (List.mem_of_getElem? (i:=0) rfl) b ⟨by omega,_,rfl,rfl⟩) (by omega) hc (by
    rw [show (⟨#[44]⟩:ByteArray).data.toList=[44] from rfl,z_nk,<-hr]
    omega)
   rw [z_m0,<-hr] at h
   exact h) ?_
  intro β w' hs
  exact hs.fin [] ⟨rfl,rfl⟩
theorem Sat.frOld {cx:Cx} {β:Va} {n:Nat} {H:List Bk} {F:List Fact} {W w:World} (h:Sat cx β n H F w) (j:Nat) (hj:nth F j=some (oldF W)) (f:Fact) (hfo:f.own=false) (hp:f.p W) (hlt: ∀k,f.D k->k<W.heap.size):Sat cx β n H (f::F) w:=
 h.sub j hj rfl f hfo (f.st W w (fun k hk=>(h.get j hj:(oldF W).p w) k (hlt k hk)) hp) hlt
theorem z_ua (w:World) (k:Nat) (hk:k<100):Pu Tryz.prog z_l5 #[.int .i64 (k:Int)] w (.string (decimS k)):=by
 refine pu_of (Calls.mono (Tryz.strconv_Itoa_small k hk w) ?_)
 rintro e w' ⟨rfl,rfl⟩
 exact ⟨_,rfl,rfl,Chg.refl _ _⟩
theorem ne_of {α:Type} {l:List α} (h:1<=l.length):l≠[]:=fun e=>by rw [e] at h;exact absurd h (Nat.not_succ_le_zero 0)
theorem z_le {a:ASec} (h:rightA a=true):1<=a.salt.length/\a.salt.length<=32/\1<=a.iter/\a.iter<=64/\a.stored.length=32/\a.server.length=32/\a.ha1.length=32:=by
 unfold rightA saltedA at h
 simp only [Bool.and_eq_true,decide_eq_true_eq] at h
 obtain ⟨⟨h1,h2,h3,h4⟩,h5,h6,h7⟩:=h
 exact ⟨h1,h2,h3,h4,h5,h6,h7⟩
theorem mapS (l:List (List UInt8)):(l.map mkS).map (fun r:ByteArray=>r.data.toList)=l:=by
 rw [List.map_map]
 have:((fun r:ByteArray=>r.data.toList)∘mkS)=id:=by funext l;exact mkSo l
 rw [this,List.map_id]
theorem z_j1 (p:List UInt8):(encS false p).length<=(8*p.length+5)/6+3:=by
 show (b64L false p++eqs _).length<=_
 have h:=z_kC false p
 rw [List.length_append]
 simp only [eqs,List.length_replicate]
 omega
theorem z_my {n:Nat} (h:n<18446744073709551616):(Lib.decDigits n).length<=20:=z_jw h
theorem z_om {c:ACrd} (ok:LnOk c):(jn 32 (wdsU c)).length<=2650:=by
 obtain ⟨h0,h32,hi1,hi64,hst,hsv,hha⟩:=z_le ok.s
 have hg:=ok.g
 unfold greatN at hg
 have key: ∀x∈wdsU c,x.length<=264:=?_
 ·have:=jn_le (d:=32) (k:=264) (L:=wdsU c) key
  rw [show (wdsU c).length=10 from rfl] at this
  omega
 intro x hx
 have hu:=ok.u
 have hx1:(hexB c.user.data.toList).length=2*c.user.size:=z_eo _
 have e1:=z_j1 c.sec.salt
 have e2:=z_j1 c.sec.stored
 have e3:=z_j1 c.sec.server
 have e4:=z_j1 c.sec.ha1
 have d1:=z_my (n:=c.gen) (by omega)
 have d2:=z_my (n:=c.sec.iter.toNat) (by omega)
 have r1:=z_ph ok.n ok.r
 simp only [wdsU,List.mem_cons,List.not_mem_nil,or_false] at hx
 rcases hx with rfl | rfl | rfl | rfl | rfl | rfl | rfl | rfl | rfl | rfl
 ·decide
 ·omega
 ·omega
 ·unfold stW;split<;>decide
 ·omega
 ·omega
 ·omega
 ·omega
 ·omega
 ·exact r1
set_option maxHeartbeats 1000000 in
theorem z_vA (w:World) (c:Crd) (hz:RolOk c) (ok:LnOk c.a) (hm:Mem w [csF [c],powF]):Pu Tryz.prog z_fk #[.agg c.vs.toArray] w (.string (mkS (lnU c.a))):=by
 have g:=z_l8 w (Un [])
 have hc:(csF [c]).p w:=hm.fact _ (by simp)
 have hp:powF.p w:=hm.fact _ (by simp)
 have hpl: ∀k,powF.D k->k<w.heap.size:=fun k hk=>hm.flt powF (by simp) k hk
 obtain ⟨hr,hro⟩:=z_qI hc (c:=c) (by simp)
 obtain ⟨h0,h32,hi1,hi64,hst,hsv,hha⟩:=z_le ok.s
 have hgl:c.gen<18446744073709551616:=by have:=ok.g;unfold greatN at this;show c.a.gen<_;omega
 refine z_ad (cx:=z_jX w (Un [])) g z_oW rfl rfl (β:=Va.z) [.agg c.ss] 0 [] [oldF w] rfl rfl (z_aw rfl) ?_
 obtain ⟨cb,tn,us,sc,gn,rA,rc,ro,rv⟩:=c
 replace h0:1<=sc.salt.l.length:=h0
 replace h32:sc.salt.l.length<=32:=h32
 replace hst:sc.stored.l.length=32:=hst
 replace hsv:sc.server.l.length=32:=hsv
 replace hha:sc.ha1.l.length=32:=hha
 replace hi1:1<=sc.iter:=hi1
 replace hi64:sc.iter<=64:=hi64
 replace hro:Rd 1 rA ro.length (strs ro) w:=hro
 replace hgl:gn<18446744073709551616:=hgl
 obtain ⟨k,hk⟩: ∃k:Nat,sc.iter=(k:Int):=⟨sc.iter.toNat,by omega⟩
 have hwl: ∀rv,((wdsU (Crd.a ⟨cb,tn,us,sc,gn,rA,rc,ro,rv⟩)).map mkS).map Value.string=[.string (mkS userW),.string (mkS (hexB us.data.toList)),.string (decimS gn),.string (mkS (stW rv)),.string (decimS k),.string (mkS (encS false sc.salt.l)),.string (mkS (encS false sc.stored.l)),.string (mkS (encS false sc.server.l)),.string (mkS (encS false sc.ha1.l)),.string (mkS (rolB ro))]:=fun rv=>by
  have e:(Crd.a ⟨cb,tn,us,sc,gn,rA,rc,ro,rv⟩).sec.iter.toNat=k:=by show sc.iter.toNat=k;omega
  unfold wdsU
  rw [e]
  rfl
 cases rv with
 | false=>
  refine z_ak g z_iv (by kernel_rfl) [⟨1,z_a4,sc.x.ss⟩,⟨0,z_ao,Crd.ss ⟨cb,tn,us,sc,gn,rA,rc,ro,false⟩⟩] [oldF w] (subPerm [0]) ?_
  intro b1 b2 q1 q2
  refine ⟨subPerm [1],?_⟩
  refine z_af (v:= .string (mkS (hexB us.data.toList))) (fun β w' hs=>hex_c w' (some ⟨b1,0,none⟩) us.data.toList b2 (hs.get 0 rfl) ok.u0 (by have:=ok.u;show us.size<=_;exact Nat.le_trans this (by decide))) ?_
  refine ⟨subPerm [1],?_⟩
  refine z_af (v:= .string (decimS gn)) (fun β w' hs=>z_du w' gn hgl (z_fb (z_cQ hp hpl (hs.get 1 rfl)))) ?_
  refine ⟨subPerm [1],?_⟩
  refine z_af (v:= .string (decimS k)) (fun β w' hs=>by
   have h:=z_ua w' k (by omega)
   rw [<-hk] at h
   exact h) ?_
  refine ⟨subPerm [1],?_⟩
  refine z_af (v:= .string (mkS (encS false sc.salt.l))) (fun β w' hs=>z_ea w' sc.salt.A sc.salt.l sc.salt.c (ne_of h0) sc.salt.hc (by omega) ((hs.frOld 1 rfl (bsF sc.salt.A sc.salt.l) rfl hr.r1 (rd_lt hr.r1)).mem.take (js:=[0]) rfl)) ?_
  refine ⟨subPerm [1],?_⟩
  refine z_af (v:= .string (mkS (encS false sc.stored.l))) (fun β w' hs=>z_ea w' sc.stored.A sc.stored.l sc.stored.c (ne_of (by omega)) sc.stored.hc (by omega) ((hs.frOld 1 rfl (bsF sc.stored.A sc.stored.l) rfl hr.r2 (rd_lt hr.r2)).mem.take (js:=[0]) rfl)) ?_
  refine ⟨subPerm [1],?_⟩
  refine z_af (v:= .string (mkS (encS false sc.server.l))) (fun β w' hs=>z_ea w' sc.server.A sc.server.l sc.server.c (ne_of (by omega)) sc.server.hc (by omega) ((hs.frOld 1 rfl (bsF sc.server.A sc.server.l) rfl hr.r3 (rd_lt hr.r3)).mem.take (js:=[0]) rfl)) ?_
  refine ⟨subPerm [1],?_⟩
  refine z_af (v:= .string (mkS (encS false sc.ha1.l))) (fun β w' hs=>z_ea w' sc.ha1.A sc.ha1.l sc.ha1.c (ne_of (by omega)) sc.ha1.hc (by omega) ((hs.frOld 1 rfl (bsF sc.ha1.A sc.ha1.l) rfl hr.r4 (rd_lt hr.r4)).mem.take (js:=[0]) rfl)) ?_
  refine ⟨subPerm [1],?_⟩
  refine z_af (v:= .string (mkS (rolB ro))) (fun β w' hs=>z_rf w' rA ro rc hz.off hz.cap ok.n ok.r ((hs.frOld 1 rfl (rdF 1 rA ro.length (strs ro)) rfl hro (rd_lt hro)).mem.take (js:=[0]) rfl)) ?_
  refine ⟨subPerm [1],?_⟩
  intro b3
  refine ⟨subPerm [2],?_⟩
  refine z_af (v:= .string (mkS (jn 32 (wdsU (Crd.a ⟨cb,tn,us,sc,gn,rA,rc,ro,false⟩))))) (fun β w' hs=>by
   have h:=z_q2 w' b3 10 ((wdsU (Crd.a ⟨cb,tn,us,sc,gn,rA,rc,ro,false⟩)).map mkS) ⟨#[32]⟩ (by rw [hwl _];exact z_am (hs.get 0 rfl)) (hs.getLt 0 rfl b3 rfl) (by show 10<=1000;decide) (Nat.le_refl 10) (by
    rw [show (⟨#[32]⟩:ByteArray).data.toList=[32] from rfl,z_nk,mapS]
    have:=z_om (c:=Crd.a ⟨cb,tn,us,sc,gn,rA,rc,ro,false⟩) ok
    omega)
   rw [z_m0,mapS] at h
   exact h) ?_
  refine ⟨subPerm [2],?_⟩
  intro β w' hs
  exact (hs.keepB (List.nil_sublist _)).fin [] ⟨rfl,rfl⟩
 | true=>
  refine z_ak g z_iv (by kernel_rfl) [⟨1,z_a4,sc.x.ss⟩,⟨0,z_ao,Crd.ss ⟨cb,tn,us,sc,gn,rA,rc,ro,true⟩⟩] [oldF w] (subPerm [0]) ?_
  intro b1 b2 q1 q2
  refine ⟨subPerm [1],?_⟩
  refine z_af (v:= .string (mkS (hexB us.data.toList))) (fun β w' hs=>hex_c w' (some ⟨b1,0,none⟩) us.data.toList b2 (hs.get 0 rfl) ok.u0 (by have:=ok.u;show us.size<=_;exact Nat.le_trans this (by decide))) ?_
  refine ⟨subPerm [1],?_⟩
  refine z_af (v:= .string (decimS gn)) (fun β w' hs=>z_du w' gn hgl (z_fb (z_cQ hp hpl (hs.get 1 rfl)))) ?_
  refine ⟨subPerm [1],?_⟩
  refine z_af (v:= .string (decimS k)) (fun β w' hs=>by
   have h:=z_ua w' k (by omega)
   rw [<-hk] at h
   exact h) ?_
  refine ⟨subPerm [1],?_⟩
  refine z_af (v:= .string (mkS (encS false sc.salt.l))) (fun β w' hs=>z_ea w' sc.salt.A sc.salt.l sc.salt.c (ne_of h0) sc.salt.hc (by omega) ((hs.frOld 1 rfl (bsF sc.salt.A sc.salt.l) rfl hr.r1 (rd_lt hr.r1)).mem.take (js:=[0]) rfl)) ?_
  refine ⟨subPerm [1],?_⟩
  refine z_af (v:= .string (mkS (encS false sc.stored.l))) (fun β w' hs=>z_ea w' sc.stored.A sc.stored.l sc.stored.c (ne_of (by omega)) sc.stored.hc (by omega) ((hs.frOld 1 rfl (bsF sc.stored.A sc.stored.l) rfl hr.r2 (rd_lt hr.r2)).mem.take (js:=[0]) rfl)) ?_
  refine ⟨subPerm [1],?_⟩
  refine z_af (v:= .string (mkS (encS false sc.server.l))) (fun β w' hs=>z_ea w' sc.server.A sc.server.l sc.server.c (ne_of (by omega)) sc.server.hc (by omega) ((hs.frOld 1 rfl (bsF sc.server.A sc.server.l) rfl hr.r3 (rd_lt hr.r3)).mem.take (js:=[0]) rfl)) ?_
  refine ⟨subPerm [1],?_⟩
  refine z_af (v:= .string (mkS (encS false sc.ha1.l))) (fun β w' hs=>z_ea w' sc.ha1.A sc.ha1.l sc.ha1.c (ne_of (by omega)) sc.ha1.hc (by omega) ((hs.frOld 1 rfl (bsF sc.ha1.A sc.ha1.l) rfl hr.r4 (rd_lt hr.r4)).mem.take (js:=[0]) rfl)) ?_
  refine ⟨subPerm [1],?_⟩
  refine z_af (v:= .string (mkS (rolB ro))) (fun β w' hs=>z_rf w' rA ro rc hz.off hz.cap ok.n ok.r ((hs.frOld 1 rfl (rdF 1 rA ro.length (strs ro)) rfl hro (rd_lt hro)).mem.take (js:=[0]) rfl)) ?_
  refine ⟨subPerm [1],?_⟩
  intro b3
  refine ⟨subPerm [2],?_⟩
  refine z_af (v:= .string (mkS (jn 32 (wdsU (Crd.a ⟨cb,tn,us,sc,gn,rA,rc,ro,true⟩))))) (fun β w' hs=>by
   have h:=z_q2 w' b3 10 ((wdsU (Crd.a ⟨cb,tn,us,sc,gn,rA,rc,ro,true⟩)).map mkS) ⟨#[32]⟩ (by rw [hwl _];exact z_am (hs.get 0 rfl)) (hs.getLt 0 rfl b3 rfl) (by show 10<=1000;decide) (Nat.le_refl 10) (by
    rw [show (⟨#[32]⟩:ByteArray).data.toList=[32] from rfl,z_nk,mapS]
    have:=z_om (c:=Crd.a ⟨cb,tn,us,sc,gn,rA,rc,ro,true⟩) ok
    omega)
   rw [z_m0,mapS] at h
   exact h) ?_
  refine ⟨subPerm [2],?_⟩
  intro β w' hs
  exact (hs.keepB (List.nil_sublist _)).fin [] ⟨rfl,rfl⟩
theorem z_ru (d:UInt8) (x:List UInt8): ∀L:List (List UInt8),L≠[]->jn d (L++[x])=jn d L++d::x
 | [],h=>absurd rfl h
 | [a],_=>rfl
 | a::b::r,_=>by
  have ih:=z_ru d x (b::r) (by simp)
  show jn d (a::b::(r++[x]))=_
  rw [z_ma,z_ma,show b::(r++[x])=(b::r)++[x] from rfl,ih]
  simp
set_option maxHeartbeats 1000000 in
theorem z_ul (w:World) (c:Crd) (hr:SRd c.sec.x c.sec.a w) (hro:Rd 1 c.rA c.roles.length (strs c.roles) w) (ok:LnOk c.a):Pu Tryz.prog z_dK #[.agg c.vs.toArray] w (.string (mkS (lnU c.a))):=by
 have g:=z_f0 w (Un [])
 have hml:=z_ag
 obtain ⟨h0,h32,hi1,hi64,hst,hsv,hha⟩:=z_le ok.s
 have hgl:c.gen<18446744073709551616:=by have:=ok.g;unfold greatN at this;show c.a.gen<_;omega
 refine z_dt (cx:=z_c8 w (Un [])) g z_h4 rfl rfl (β:=Va.z) [.agg c.ss] 0 [] [oldF w] rfl rfl (z_aw rfl) ?_
 obtain ⟨cb,tn,us,sc,gn,rA,rc,ro,rv⟩:=c
 replace h0:1<=sc.salt.l.length:=h0
 replace h32:sc.salt.l.length<=32:=h32
 replace hst:sc.stored.l.length=32:=hst
 replace hsv:sc.server.l.length=32:=hsv
 replace hha:sc.ha1.l.length=32:=hha
 replace hi1:1<=sc.iter:=hi1
 replace hi64:sc.iter<=64:=hi64
 replace hro:Rd 1 rA ro.length (strs ro) w:=hro
 replace hgl:gn<18446744073709551616:=hgl
 have hu32:us.data.toList.length<=32:=ok.u
 obtain ⟨k,hk⟩: ∃k:Nat,sc.iter=(k:Int):=⟨sc.iter.toNat,by omega⟩
 have l1:(hexB us.data.toList).length<=64:=by rw [z_eo];omega
 have l2:=z_my hgl
 have l3:=z_my (n:=k) (by omega)
 have e1:=z_j1 sc.salt.l
 have e2:=z_j1 sc.stored.l
 have e3:=z_j1 sc.server.l
 have e4:=z_j1 sc.ha1.l
 refine z_an g ?_
 refine z_b3 (ι:=Unit) g (fun _=>True) 1 (fun _=>[(1,.c (.p 0 0)),(2,.c (.v (.string ByteArray.empty))),(3,.c (.v (.string (mkS (jn 32 [userW,hexB us.data.toList,Lib.decDigits gn])))))]) (fun _=>[⟨0,z_aj,Crd.ss ⟨cb,tn,us,sc,gn,rA,rc,ro,rv⟩⟩]) (fun _=>[oldF w]) ?_ ?_
 rotate_left
 ·refine z_ak g z_gT (by kernel_rfl) [⟨0,z_aj,Crd.ss ⟨cb,tn,us,sc,gn,rA,rc,ro,rv⟩⟩] [oldF w] (subPerm [0]) ?_
  intro b1 b2 q1 q2
  refine ⟨subPerm [1],?_⟩
  refine z_af (v:= .string (mkS (hexB us.data.toList))) (fun β w' hs=>z_tL w' (some ⟨b1,0,none⟩) us.data.toList b2 (hs.get 0 rfl) (by omega)) ?_
  refine ⟨subPerm [1],?_⟩
  refine ⟨by show 5+(hexB us.data.toList).length<=maxLen;omega,?_⟩
  refine ⟨by rw [z_ar];show 5+(hexB us.data.toList).length+1<=maxLen;omega,?_⟩
  refine z_af (v:= .string (decimS gn)) (fun β w' hs=>dec_c w' gn hgl) ?_
  refine ⟨subPerm [1],?_⟩
  refine ⟨by rw [z_ar,z_ar];show 5+(hexB us.data.toList).length+1+(Lib.decDigits gn).length<=maxLen;omega,?_⟩
  have e1:((mkS [117,115,101,114,32]++mkS (hexB us.data.toList))++mkS [32])++mkS (Lib.decDigits gn)=mkS (jn 32 [userW,hexB us.data.toList,Lib.decDigits gn]):=by
   rw [z_ap,z_ap,z_ap]
   simp [jn,userW]
  exact EntX.of () trivial (Ent.mk' ⟨rfl,rfl,congrArg (fun s=>some (SV.c (SL.v (Value.string s)))) e1,trivial⟩ rfl (fun β w' hs=>hs.perm [1]))
 rintro _ _
 obtain ⟨P1,hP1⟩: ∃P,jn 32 [userW,hexB us.data.toList,Lib.decDigits gn]=P:=⟨_,rfl⟩
 have hl1:P1.length<=200:=by
  rw [<-hP1]
  simp only [jn,List.length_append,List.length_cons]
  show 4+_<=_
  omega
 rw [hP1]
 refine z_b3 (ι:=Unit) g (fun _=>True) 1 (fun _=>[(1,.c (.p 0 0)),(2,.c (.v (.string ByteArray.empty))),(3,.c (.v (.string (mkS (P1++32::(stW rv++[32]))))))]) (fun _=>[⟨0,z_aj,Crd.ss ⟨cb,tn,us,sc,gn,rA,rc,ro,rv⟩⟩]) (fun _=>[oldF w]) ?_ ?_
 rotate_left
 ·cases rv with
  | false=>
   refine ⟨by show P1.length+4<=maxLen;omega,?_⟩
   have e1:mkS P1++mkS [32,111,110,32]=mkS (P1++32::(stW false++[32])):=by rw [z_ap];rfl
   exact EntX.of () trivial (Ent.mk' ⟨rfl,rfl,congrArg (fun s=>some (SV.c (SL.v (Value.string s)))) e1,trivial⟩ rfl (fun β w' hs=>hs))
  | true=>
   refine ⟨by show P1.length+5<=maxLen;omega,?_⟩
   have e1:mkS P1++mkS [32,111,102,102,32]=mkS (P1++32::(stW true++[32])):=by rw [z_ap];rfl
   exact EntX.of () trivial (Ent.mk' ⟨rfl,rfl,congrArg (fun s=>some (SV.c (SL.v (Value.string s)))) e1,trivial⟩ rfl (fun β w' hs=>hs))
 rintro _ _
 obtain ⟨P2,hP2⟩: ∃P,P1++32::(stW rv++[32])=P:=⟨_,rfl⟩
 have hl2:P2.length<=300:=by
  rw [<-hP2]
  have:(stW rv).length<=3:=by unfold stW;split<;>decide
  simp only [List.length_append,List.length_cons,List.length_nil]
  omega
 rw [hP2]
 refine z_an g ?_
 refine z_b3 (ι:=Unit) g (fun _=>True) 2 (fun _=>[(1,.c (.p 0 0)),(2,.c (.v (.string ByteArray.empty))),(3,.c (.v (.string (mkS (P2++(Lib.decDigits k++32::(encS false sc.salt.l++32::(encS false sc.stored.l++32::(encS false sc.server.l++32::(encS false sc.ha1.l++[32]))))))))))]) (fun _=>[⟨1,z_a5,sc.x.ss⟩,⟨0,z_aj,Crd.ss ⟨cb,tn,us,sc,gn,rA,rc,ro,rv⟩⟩]) (fun _=>[oldF w]) ?_ ?_
 rotate_left
 ·refine z_ak g z_gy (by kernel_rfl) [⟨1,z_a5,sc.x.ss⟩,⟨0,z_aj,Crd.ss ⟨cb,tn,us,sc,gn,rA,rc,ro,rv⟩⟩] [oldF w] (subPerm [0]) ?_
  refine ⟨(k:Int),by show IntKind.u64.wrap sc.iter=_;rw [hk,z_aV];omega,?_⟩
  refine z_af (v:= .string (decimS k)) (fun β w' hs=>dec_c w' k (by omega)) ?_
  refine ⟨subPerm [0],?_⟩
  refine ⟨by show (Lib.decDigits k).length+1<=maxLen;omega,?_⟩
  refine z_ac [] (fun β w' hs=>z_iR w' sc.salt.A sc.salt.l sc.salt.c false (by omega) ((hs.frOld 0 rfl (bsF sc.salt.A sc.salt.l) rfl hr.r1 (rd_lt hr.r1)).mem.take (js:=[0]) rfl)) ?_
  rintro v Fs ⟨rfl,rfl⟩
  refine ⟨subPerm [0],?_⟩
  refine ⟨by rw [z_ar];show (Lib.decDigits k).length+1+(encS false sc.salt.l).length<=maxLen;omega,?_⟩
  refine ⟨by rw [z_ar,z_ar];show (Lib.decDigits k).length+1+(encS false sc.salt.l).length+1<=maxLen;omega,?_⟩
  refine z_ac [] (fun β w' hs=>z_iR w' sc.stored.A sc.stored.l sc.stored.c false (by omega) ((hs.frOld 0 rfl (bsF sc.stored.A sc.stored.l) rfl hr.r2 (rd_lt hr.r2)).mem.take (js:=[0]) rfl)) ?_
  rintro v Fs ⟨rfl,rfl⟩
  refine ⟨subPerm [0],?_⟩
  refine ⟨by rw [z_ar,z_ar,z_ar];show (Lib.decDigits k).length+1+(encS false sc.salt.l).length+1+(encS false sc.stored.l).length<=maxLen;omega,?_⟩
  refine ⟨by rw [z_ar,z_ar,z_ar,z_ar];show (Lib.decDigits k).length+1+(encS false sc.salt.l).length+1+(encS false sc.stored.l).length+1<=maxLen;omega,?_⟩
  refine z_ac [] (fun β w' hs=>z_iR w' sc.server.A sc.server.l sc.server.c false (by omega) ((hs.frOld 0 rfl (bsF sc.server.A sc.server.l) rfl hr.r3 (rd_lt hr.r3)).mem.take (js:=[0]) rfl)) ?_
  rintro v Fs ⟨rfl,rfl⟩
  refine ⟨subPerm [0],?_⟩
  refine ⟨by rw [z_ar,z_ar,z_ar,z_ar,z_ar];show (Lib.decDigits k).length+1+(encS false sc.salt.l).length+1+(encS false sc.stored.l).length+1+(encS false sc.server.l).length<=maxLen;omega,?_⟩
  refine ⟨by rw [z_ar,z_ar,z_ar,z_ar,z_ar,z_ar];show (Lib.decDigits k).length+1+(encS false sc.salt.l).length+1+(encS false sc.stored.l).length+1+(encS false sc.server.l).length+1<=maxLen;omega,?_⟩
  refine z_ac [] (fun β w' hs=>z_iR w' sc.ha1.A sc.ha1.l sc.ha1.c false (by omega) ((hs.frOld 0 rfl (bsF sc.ha1.A sc.ha1.l) rfl hr.r4 (rd_lt hr.r4)).mem.take (js:=[0]) rfl)) ?_
  rintro v Fs ⟨rfl,rfl⟩
  refine ⟨subPerm [0],?_⟩
  refine ⟨by rw [z_ar,z_ar,z_ar,z_ar,z_ar,z_ar,z_ar];show (Lib.decDigits k).length+1+(encS false sc.salt.l).length+1+(encS false sc.stored.l).length+1+(encS false sc.server.l).length+1+(encS false sc.ha1.l).length<=maxLen;omega,?_⟩
  refine ⟨by rw [z_ar,z_ar,z_ar,z_ar,z_ar,z_ar,z_ar,z_ar];show (Lib.decDigits k).length+1+(encS false sc.salt.l).length+1+(encS false sc.stored.l).length+1+(encS false sc.server.l).length+1+(encS false sc.ha1.l).length+1<=maxLen;omega,?_⟩
  refine ⟨by rw [z_ar,z_ar,z_ar,z_ar,z_ar,z_ar,z_ar,z_ar,z_ar];show P2.length+((Lib.decDigits k).length+1+(encS false sc.salt.l).length+1+(encS false sc.stored.l).length+1+(encS false sc.server.l).length+1+(encS false sc.ha1.l).length+1)<=maxLen;omega,?_⟩
  have e1:mkS P2++(((((((((mkS (Lib.decDigits k)++mkS [32])++mkS (encS false sc.salt.l))++mkS [32])++mkS (encS false sc.stored.l))++mkS [32])++mkS (encS false sc.server.l))++mkS [32])++mkS (encS false sc.ha1.l))++mkS [32])=mkS (P2++(Lib.decDigits k++32::(encS false sc.salt.l++32::(encS false sc.stored.l++32::(encS false sc.server.l++32::(encS false sc.ha1.l++[32])))))):=by
   rw [z_ap,z_ap,z_ap,z_ap,z_ap,z_ap,z_ap,z_ap,z_ap,z_ap]
   simp
  exact EntX.of () trivial (Ent.mk' ⟨rfl,rfl,congrArg (fun s=>some (SV.c (SL.v (Value.string s)))) e1,trivial⟩ rfl (fun β w' hs=>hs))
 rintro _ _
 obtain ⟨P3,hP3⟩: ∃P,P2++(Lib.decDigits k++32::(encS false sc.salt.l++32::(encS false sc.stored.l++32::(encS false sc.server.l++32::(encS false sc.ha1.l++[32])))))=P:=⟨_,rfl⟩
 rw [hP3]
 have hl3:P3.length<=700:=by
  rw [<-hP3]
  simp only [List.length_append,List.length_cons,List.length_nil]
  omega
 have hL:lnU (Crd.a ⟨cb,tn,us,sc,gn,rA,rc,ro,rv⟩)=P3++rolB ro:=by
  have ek:(Crd.a ⟨cb,tn,us,sc,gn,rA,rc,ro,rv⟩).sec.iter.toNat=k:=by show sc.iter.toNat=k;omega
  unfold lnU wdsU
  rw [ek,<-hP3,<-hP2,<-hP1]
  show jn 32 [userW,hexB us.data.toList,Lib.decDigits gn,stW rv,Lib.decDigits k,encS false sc.salt.l,encS false sc.stored.l,encS false sc.server.l,encS false sc.ha1.l,rolB ro]=_
  simp [jn]
 rw [hL]
 clear hL hP1 hP2 hP3
 refine z_an g ?_
 refine BIf.dec (fun h0=>?_) (fun h0=>?_)
 ·have h00:(ro.length:Int)=0:=h0
  have hl:ro=[]:=List.length_eq_zero_iff.1 (by omega)
  refine ⟨by show P3.length+1<=maxLen;omega,?_⟩
  intro β w' hs
  refine (hs.keepB (List.nil_sublist _)).fin [] ⟨?_,rfl⟩
  show Value.string (mkS P3++mkS [45])=_
  rw [z_ap,hl]
  rfl
 have h00: ¬(ro.length:Int)=0:=h0
 have hne:ro≠[]:=fun e=>h00 (by rw [e];rfl)
 have hn8:ro.length<=8:=ok.n
 have hrs: ∀r∈ro,r.size<=32:=ok.r
 have hrol:rolB ro=jn 44 (ro.map fun r=>r.data.toList):=by unfold rolB;rw [if_neg hne]
 rw [hrol]
 have hjl: ∀i,(jn 44 ((ro.take i).map fun r=>r.data.toList)).length<=264:=fun i=>by
  have h:=jn_le (d:=44) (k:=32) (L:=(ro.take i).map fun r=>r.data.toList) (fun x hx=>by
   obtain ⟨r,hr,rfl⟩:=List.mem_map.1 hx
   exact hrs r (List.mem_of_mem_take hr))
  rw [List.length_map,List.length_take] at h
  omega
 refine z_an g ?_
 refine z_ai (ι:=Nat) 2 (fun i=>[(1,.c (.p 0 0)),(2,.c (.v (.string ByteArray.empty))),(3,.c (.v (.string (mkS (P3++jn 44 ((ro.take i).map fun r=>r.data.toList)))))),(59,.c (.v (.slice rA ro.length rc))),(60,.c (.v (.int .i64 (ro.length:Int)))),(61,.c (.v (.int .i64 (i:Int))))]) (fun _=>[⟨1,z_a5,sc.x.ss⟩,⟨0,z_aj,Crd.ss ⟨cb,tn,us,sc,gn,rA,rc,ro,rv⟩⟩]) (fun _=>[oldF w])
  (fun i=>i<=ro.length) (fun i=>ro.length - i) 0 (Nat.zero_le _) (Ent.mk' ⟨rfl,rfl,congrArg (fun s=>some (SV.c (SL.v (Value.string s)))) (by simp [jn]),rfl,rfl,rfl,trivial⟩ rfl (fun β w' hs=>hs)) g ?_
 intro i hi
 have hji:=hjl i
 refine BIf.dec (fun hlt=>?_) (fun hge=>?_)
 ·have hlt0:(i:Int)<ro.length:=hlt
  obtain ⟨y,hy,hym⟩:=at_lt (show i<ro.length by omega)
  obtain ⟨ad,hA,_⟩:=hro.2 (by omega)
  have hyz:=hrs y hym
  have htk:(ro.take (i+1)).map (fun r=>r.data.toList)=(ro.take i).map (fun r=>r.data.toList)++[y.data.toList]:=by
   rw [List.take_add_one,hy]
   simp
  refine ⟨ad,i,hA,rfl,by omega,.string y,fun β w' hs=>Rd.cell1 (by have h:=Rd.old hro (hs.get 0 rfl);rw [hA] at h;exact h) (by simp [strs,hy]),?_⟩
  refine BIf.dec (fun hp=>?_) (fun hp=>?_)
  ·have hp0:(0:Int)<(i:Int):=hp
   have hne2:(ro.take i).map (fun r=>r.data.toList)≠[]:=fun e=>by
    have:=congrArg List.length e
    rw [List.length_map,List.length_take] at this
    simp only [List.length_nil] at this
    omega
   refine ⟨by show (P3++_).length+1<=maxLen;rw [List.length_append];omega,?_⟩
   refine ⟨by rw [z_ar];show (P3++_).length+1+y.size<=maxLen;rw [List.length_append];omega,?_⟩
   refine ⟨((i+1:Nat):Int),by rw [wrap_i64 (by omega) (by omega)];rfl,?_⟩
   have e1:(mkS (P3++jn 44 ((ro.take i).map fun r=>r.data.toList))++mkS [44])++y=mkS (P3++jn 44 ((ro.take (i+1)).map fun r=>r.data.toList)):=by
    rw [htk,z_ru 44 _ _ hne2]
    conv=>lhs;rw [<-z_iU y]
    rw [z_ap]
    show mkS _++mkS y.data.toList=_
    rw [z_ap]
    simp
   exact ⟨i+1,by omega,by omega,Ent.mk' ⟨rfl,rfl,congrArg (fun s=>some (SV.c (SL.v (Value.string s)))) e1,rfl,rfl,rfl,trivial⟩ rfl (fun β w' hs=>hs)⟩
  ·have hp0: ¬(0:Int)<(i:Int):=hp
   obtain rfl:i=0:=by omega
   refine ⟨by show (P3++_).length+y.size<=maxLen;rw [List.length_append];omega,?_⟩
   refine ⟨((0+1:Nat):Int),by rw [wrap_i64 (by omega) (by omega)];rfl,?_⟩
   have e1:mkS (P3++jn 44 ((ro.take 0).map fun r=>r.data.toList))++y=mkS (P3++jn 44 ((ro.take (0+1)).map fun r=>r.data.toList)):=by
    rw [htk]
    conv=>lhs;rw [<-z_iU y]
    show mkS _++mkS y.data.toList=_
    rw [z_ap]
    simp [jn]
   exact ⟨0+1,by omega,by omega,Ent.mk' ⟨rfl,rfl,congrArg (fun s=>some (SV.c (SL.v (Value.string s)))) e1,rfl,rfl,rfl,trivial⟩ rfl (fun β w' hs=>hs)⟩
 ·have hge0: ¬(i:Int)<ro.length:=hge
  rw [List.take_of_length_le (by omega)]
  refine z_an g ?_
  refine z_fI g ?_
  intro β w' hs
  exact (hs.keepB (List.nil_sublist _)).fin [] ⟨rfl,rfl⟩
def Run {α:Type} (st:Nat->List UInt8->α->α->Prop):Nat->List (List UInt8)->α->α->Prop
 | _,[],a,b=>a=b
 | i,l::r,a,b=> ∃m,st i l a m/\Run st (i+1) r m b
theorem Run.app {α:Type} {st:Nat->List UInt8->α->α->Prop}: ∀(p q:List (List UInt8)) (i:Nat) (a b:α),Run st i (p++q) a b↔ ∃m,Run st i p a m/\Run st (i+p.length) q m b
 | [],q,i,a,b=>by simp [Run]
 | l::p,q,i,a,b=>by
  have ih:=Run.app (st:=st) p q (i+1)
  simp only [List.cons_append,Run,List.length_cons]
  constructor
  ·rintro ⟨m,h1,h2⟩
   obtain ⟨n,h3,h4⟩:=(ih m b).1 h2
   exact ⟨n,⟨m,h1,h3⟩,by rw [show i+(p.length+1)=i+1+p.length by omega];exact h4⟩
  ·rintro ⟨n,⟨m,h1,h3⟩,h4⟩
   exact ⟨m,h1,(ih m b).2 ⟨n,h3,by rw [show i+1+p.length=i+(p.length+1) by omega];exact h4⟩⟩
theorem Run.snoc {α:Type} {st:Nat->List UInt8->α->α->Prop} {p:List (List UInt8)} {x:List UInt8} {a m b:α} (h:Run st 0 p a m) (h2:st p.length x m b):Run st 0 (p++[x]) a b:=
 (Run.app p [x] 0 a b).2 ⟨m,h,by rw [Nat.zero_add];exact ⟨b,h2,rfl⟩⟩
theorem Run.one {α:Type} {st:Nat->List UInt8->α->α->Prop} (hf: ∀i l a b c,st i l a b->st i l a c->b=c): ∀(p:List (List UInt8)) (i:Nat) (a b c:α),Run st i p a b->Run st i p a c->b=c
 | [],i,a,b,c,h,k=>h.symm.trans k
 | l::p,i,a,b,c,⟨m,h1,h2⟩,⟨n,k1,k2⟩=>by
  obtain rfl:=hf i l a m n h1 k1
  exact Run.one hf p (i+1) m b c h2 k2
theorem Run.no {α:Type} {st:Nat->List UInt8->α->α->Prop} (hf: ∀i l a b c,st i l a b->st i l a c->b=c) {p q:List (List UInt8)} {x:List UInt8} {a m:α} (h:Run st 0 p a m) (hx: ∀b,¬st p.length x m b) (b:α): ¬Run st 0 (p++x::q) a b:=by
 intro k
 obtain ⟨n,k1,k2⟩:=(Run.app p (x::q) 0 a b).1 k
 obtain rfl:=Run.one hf p 0 a m n h k1
 rw [Nat.zero_add] at k2
 obtain ⟨o,k3,_⟩:=k2
 exact hx o k3
theorem Run.sim {α β:Type} {s:Nat->List UInt8->α->α->Prop} {t:Nat->List UInt8->β->β->Prop} (R:α->β->Prop) (Fm:Nat->List UInt8->Prop) (hst: ∀i l a a' b,R a a'->Fm i l->s i l a b-> ∃b',t i l a' b'/\R b b'):
  ∀(p:List (List UInt8)) (i:Nat) (a:α) (a':β) (b:α),R a a'->(∀j l,p[j]?=some l->Fm (i+j) l)->Run s i p a b-> ∃b',Run t i p a' b'/\R b b'
 | [],i,a,a',b,hR,_,h=>by
  have:a=b:=h
  subst this
  exact ⟨a',rfl,hR⟩
 | l::p,i,a,a',b,hR,hF,⟨m,h1,h2⟩=>by
  obtain ⟨m',k1,k2⟩:=hst i l a a' m hR (hF 0 l rfl) h1
  obtain ⟨b',k3,k4⟩:=Run.sim R Fm hst p (i+1) m m' b k2 (fun j l hl=>by rw [show i+1+j=i+(j+1) by omega];exact hF (j+1) l (by simpa using hl)) h2
  exact ⟨b',⟨m',k1,k3⟩,k4⟩
theorem Run.inv {α:Type} {s:Nat->List UInt8->α->α->Prop} (I:α->Prop) (hst: ∀i l a b,I a->s i l a b->I b): ∀(p:List (List UInt8)) (i:Nat) (a b:α),I a->Run s i p a b->I b
 | [],_,a,b,hI,h=>by
  have:a=b:=h
  exact this▸hI
 | l::p,i,a,b,hI,⟨m,h1,h2⟩=>Run.inv I hst p (i+1) m b (hst i l a m hI h1) h2
def rolS (s:List UInt8):List ByteArray:=if s=[45] then [] else (splL 44 s).map mkS
def nP (s:List UInt8) (n:Nat):Prop:=numOk (mkS s) n
def nR (s:List UInt8) (n:Nat):Prop:=rnum s=some n
structure Par (num:List UInt8->Nat->Prop) (t:ByteArray) (w:List (List UInt8)) (c:ACrd):Prop where
 n:w.length=10
 ten:c.tenant=t
 u:unhexA (w.getD 1 [])=some c.user.data.toList
 g:num (w.getD 2 []) c.gen
 i: ∃r:Nat,num (w.getD 4 []) r/\r<=64/\c.sec.iter=(r:Int)
 a:decP (w.getD 5 [])=some c.sec.salt
 b:decP (w.getD 6 [])=some c.sec.stored
 s:decP (w.getD 7 [])=some c.sec.server
 h:decP (w.getD 8 [])=some c.sec.ha1
 r:c.roles=rolS (w.getD 9 [])
 o:c.revoked=decide (w.getD 3 []=offW)
theorem Par.one {num:List UInt8->Nat->Prop} (hn: ∀s a b,num s a->num s b->a=b) {t:ByteArray} {w:List (List UInt8)} {c d:ACrd} (h:Par num t w c) (k:Par num t w d):c=d:=by
 obtain ⟨r,i1,_,i2⟩:=h.i
 obtain ⟨q,j1,_,j2⟩:=k.i
 obtain rfl:=hn _ _ _ i1 j1
 have e1:=h.ten.trans k.ten.symm
 have e2:c.user=d.user:=by
  have:=Option.some.inj (h.u.symm.trans k.u)
  apply ByteArray.ext
  apply Array.ext'
  exact this
 have e3:=hn _ _ _ h.g k.g
 have e4:=Option.some.inj (h.a.symm.trans k.a)
 have e5:=Option.some.inj (h.b.symm.trans k.b)
 have e6:=Option.some.inj (h.s.symm.trans k.s)
 have e7:=Option.some.inj (h.h.symm.trans k.h)
 have e8:=h.r.trans k.r.symm
 have e9:=h.o.trans k.o.symm
 have e10:=i2.trans j2.symm
 obtain ⟨c1,c2,⟨s1,s2,s3,s4,s5⟩,c4,c5,c6⟩:=c
 obtain ⟨d1,d2,⟨t1,t2,t3,t4,t5⟩,d4,d5,d6⟩:=d
 simp only at e1 e2 e3 e4 e5 e6 e7 e8 e9 e10
 subst e1 e2 e3 e4 e5 e6 e7 e8 e9 e10
 rfl
theorem Par.to {num num':List UInt8->Nat->Prop} {t:ByteArray} {w:List (List UInt8)} {c:ACrd} (h:Par num t w c) (h1:num (w.getD 2 []) c.gen->num' (w.getD 2 []) c.gen) (h2: ∀r,r<=64->num (w.getD 4 []) r->num' (w.getD 4 []) r):Par num' t w c:=by
 obtain ⟨r,i1,i2,i3⟩:=h.i
 exact ⟨h.n,h.ten,h.u,h1 h.g,⟨r,h2 r i2 i1,i2,i3⟩,h.a,h.b,h.s,h.h,h.r,h.o⟩
theorem z_nz (s:List UInt8) (a b:Nat) (h:nP s a) (k:nP s b):a=b:=by
 have:=h.1.symm.trans k.1
 injection this
theorem z_mh (s:List UInt8) (a b:Nat) (h:nR s a) (k:nR s b):a=b:=Option.some.inj (h.symm.trans k)
theorem nR_P {s:List UInt8} {n:Nat} (h:nR s n):nP s n:=z_tx h
theorem nP_R {s:List UInt8} {n:Nat} (h:nP s n) (hn:n<1000000000000000000):nR s n:=z_sF h (by rw [show (10:Nat)^18=1000000000000000000 by decide];exact hn)
structure FS where
 X:ASto
 t:List UInt8
 s:Bool
def UsrP (t:List UInt8) (l:List UInt8) (c:ACrd):Prop:=Par nP (mkS t) (splL 32 l) c/\(splL 32 l).getD 0 []=userW/\((splL 32 l).getD 3 []=onW\/(splL 32 l).getD 3 []=offW)
def StepP (i:Nat) (l:List UInt8) (a b:FS):Prop:=
 (i=0/\hdA 32 l=lastW/\(∃n,nP (hdB 32 l) n/\raiseA a.X n=(0,b.X))/\b.t=a.t/\b.s=a.s)\/
 (i≠0/\hdA 32 l=tenW/\addT a.X (mkS (hdB 32 l))=(0,b.X)/\b.t=hdB 32 l/\b.s=true)\/
 (i≠0/\hdA 32 l≠tenW/\(∃c,UsrP a.t l c/\loadA a.X c=(0,b.X))/\a.s=true/\b.t=a.t/\b.s=a.s)
theorem StepP.one (i:Nat) (l:List UInt8) (a b c:FS) (h:StepP i l a b) (k:StepP i l a c):b=c:=by
 obtain ⟨b1,b2,b3⟩:=b
 obtain ⟨c1,c2,c3⟩:=c
 rcases h with ⟨h0,h1,⟨n,h2,h3⟩,h4,h5⟩ | ⟨h0,h1,h3,h4,h5⟩ | ⟨h0,h1,⟨x,h2,h3⟩,h6,h4,h5⟩<;>
 rcases k with ⟨k0,k1,⟨m,k2,k3⟩,k4,k5⟩ | ⟨k0,k1,k3,k4,k5⟩ | ⟨k0,k1,⟨y,k2,k3⟩,k6,k4,k5⟩<;>
 first
  | exact absurd h0 k0
  | exact absurd k0 h0
  | exact absurd h1 k1
  | exact absurd k1 h1
  | skip
 ·obtain rfl:=z_nz _ _ _ h2 k2
  simp only at h3 k3 h4 k4 h5 k5
  rw [h3] at k3
  injection k3 with _ k3
  subst k3 h4 k4 h5 k5
  rfl
 ·simp only at h3 k3 h4 k4 h5 k5
  rw [h3] at k3
  injection k3 with _ k3
  subst k3 h4 k4 h5 k5
  rfl
 ·obtain rfl:=Par.one z_nz h2.1 k2.1
  simp only at h3 k3 h4 k4 h5 k5
  rw [h3] at k3
  injection k3 with _ k3
  subst k3 h4 k4 h5 k5
  rfl
structure GS where
 Y:RA
 t:List UInt8
def StepR (i:Nat) (l:List UInt8) (a b:GS):Prop:=
 (i=0/\(splL 32 l).length=2/\(∃n,nR ((splL 32 l).getD 1 []) n/\raiseTR a.Y n=(0,b.Y))/\b.t=a.t)\/
 (i≠0/\(splL 32 l).length=2/\addTR a.Y (mkS ((splL 32 l).getD 1 []))=(0,b.Y)/\b.t=(splL 32 l).getD 1 [])\/
 (i≠0/\(splL 32 l).length≠2/\a.t≠[]/\(∃c,Par nR (mkS a.t) (splL 32 l) c/\loadR a.Y c=(0,b.Y))/\b.t=a.t)
theorem StepR.one (i:Nat) (l:List UInt8) (a b c:GS) (h:StepR i l a b) (k:StepR i l a c):b=c:=by
 obtain ⟨b1,b2⟩:=b
 obtain ⟨c1,c2⟩:=c
 rcases h with ⟨h0,h1,⟨n,h2,h3⟩,h4⟩ | ⟨h0,h1,h3,h4⟩ | ⟨h0,h1,h6,⟨x,h2,h3⟩,h4⟩<;>
 rcases k with ⟨k0,k1,⟨m,k2,k3⟩,k4⟩ | ⟨k0,k1,k3,k4⟩ | ⟨k0,k1,k6,⟨y,k2,k3⟩,k4⟩<;>
 first
  | exact absurd h0 k0
  | exact absurd k0 h0
  | exact absurd h1 k1
  | exact absurd k1 h1
  | skip
 ·obtain rfl:=z_mh _ _ _ h2 k2
  simp only at h3 k3 h4 k4
  rw [h3] at k3
  injection k3 with _ k3
  subst k3 h4 k4
  rfl
 ·simp only at h3 k3 h4 k4
  rw [h3] at k3
  injection k3 with _ k3
  subst k3 h4 k4
  rfl
 ·obtain rfl:=Par.one z_mh h2 k2
  simp only at h3 k3 h4 k4
  rw [h3] at k3
  injection k3 with _ k3
  subst k3 h4 k4
  rfl
structure FG (a:FS) (a':GS):Prop where
 j:Jn a.X a'.Y
 t:a.t=a'.t
 s:a.s=true↔a'.t≠[]
theorem z_lm {l:List UInt8} (h:(32:UInt8)∈l):splL 32 l=hdA 32 l::splL 32 (hdB 32 l):=by
 conv=>lhs;rw [z_g3 h]
 exact z_ih _ (z_iY 32 l)
theorem z_sr {s:List UInt8} (h:(splL 32 s).length=1):(32:UInt8)∉s:=by
 intro q
 rw [z_lm q] at h
 have:=z_f6 32 (hdB 32 s)
 cases hq:splL 32 (hdB 32 s) with
 | nil=>exact this hq
 | cons a t=>rw [hq] at h;simp at h
theorem z_tE {s:List UInt8} {n:Nat} (h:nP s n):(32:UInt8)∉s/\s≠[]:=by
 have e:Lib.decDigits n=s:=mkS1 (show mkS (Lib.decDigits n)=mkS s from h.2)
 rw [<-e]
 exact ⟨z_iz 32 (by decide) n,(z_mF n n (Nat.le_refl _)).2.2.1⟩
theorem z_tY {l a b:List UInt8} (h:splL 32 l=[a,b]):hdA 32 l=a/\hdB 32 l=b/\(32:UInt8)∉b:=by
 have hm:(32:UInt8)∈l:=by
  by_cases q:(32:UInt8)∈l
  ·exact q
  ·rw [z_bi q] at h;simp at h
 rw [z_lm hm] at h
 injection h with h1 h2
 have hf:=z_sr (s:=hdB 32 l) (by rw [h2];rfl)
 rw [z_bi hf] at h2
 have h3:hdB 32 l=b:=by injection h2
 exact ⟨h1,h3,h3▸hf⟩
theorem z_tN {w:List (List UInt8)} (h:w.length=2):w=[w.getD 0 [],w.getD 1 []]:=by
 match w,h with
 | [a,b],_=>rfl
theorem z_mZ {t:List UInt8} (h:plainF t=true):t≠[]:=by
 unfold plainF at h
 simp only [Bool.and_eq_true,decide_eq_true_eq] at h
 exact h.2.1
theorem z_ri {X X':ASto} {t:ByteArray} (h:addT X t=(0,X')):plainF t.data.toList=true:=by
 unfold addT at h
 cases hp:plainF t.data.toList with
 | true=>rfl
 | false=>
  rw [hp,if_pos rfl] at h
  injection h with h1 _
  cases h1
theorem z_sx {Y Y':RA} {t:ByteArray} (h:addTR Y t=(0,Y')):plainF t.data.toList=true/\Y'= {Y with ts:=insT Y.ts (rank Y.ts t) t}:=by
 unfold addTR at h
 cases hp:plainF t.data.toList with
 | true=>
  refine ⟨rfl,?_⟩
  rw [hp,if_neg (by decide)] at h
  split at h
  ·injection h with h1 _;cases h1
  ·split at h
   ·injection h with h1 _;cases h1
   ·injection h with _ h2;exact h2.symm
 | false=>
  rw [hp,if_pos rfl] at h
  injection h with h1 _
  cases h1
theorem z_tf {X X':ASto} {c:ACrd} (h:loadA X c=(0,X')):c.gen<=greatN:=by
 unfold loadA at h
 split at h
 ·injection h with h1 _;cases h1
 ·split at h
  ·injection h with h1 _;cases h1
  ·rename_i _ q
   exact (Decidable.not_not.1 q).2.2.2.2.2
theorem z_tt {Y Y':RA} {c:ACrd} (h:loadR Y c=(0,Y')):plainF c.tenant.data.toList=true/\allPl c.roles=true/\(∀t∈Y'.ts,t∈Y.ts\/t=c.tenant)/\(∀d∈Y'.cs,d∈Y.cs\/d=c):=by
 unfold loadR at h
 split at h
 ·injection h with h1 _;cases h1
 ·rename_i hp
  have hp2:(plainF c.tenant.data.toList&&allPl c.roles)=true:=by simpa using hp
  rw [Bool.and_eq_true] at hp2
  split at h
  ·injection h with h1 _;cases h1
  ·split at h
   ·injection h with h1 _;cases h1
   ·split at h
    ·injection h with h1 _;cases h1
    ·split at h
     ·injection h with h1 _;cases h1
     ·injection h with _ h2
      subst h2
      refine ⟨hp2.1,hp2.2,fun t ht=>?_,fun d hd=>?_⟩
      ·simp only at ht
       split at ht
       ·exact .inl ht
       ·unfold insT at ht
        rcases List.mem_append.1 ht with q | q
        ·exact .inl (List.mem_of_mem_take q)
        ·rcases List.mem_cons.1 q with q | q
         ·exact .inr q
         ·exact .inl (List.mem_of_mem_drop q)
      ·rcases List.mem_cons.1 ((z_iN _ _).mem_iff.1 hd) with q | q
       ·exact .inr q
       ·exact .inl q
theorem z_ro (i:Nat) (l:List UInt8) (a:FS) (a':GS) (b:FS) (hR:FG a a') (_:True) (h:StepP i l a b): ∃b',StepR i l a' b'/\FG b b':=by
 rcases h with ⟨h0,h1,⟨n,h2,h3⟩,h4,h5⟩ | ⟨h0,h1,h3,h4,h5⟩ | ⟨h0,h1,⟨c,h2,h3⟩,h6,h4,h5⟩
 ·have hf:=z_tE h2
  have hm:(32:UInt8)∈l:=by
   by_cases q:(32:UInt8)∈l
   ·exact q
   ·exact absurd (z_lt q).2 hf.2
  have hs:splL 32 l=[hdA 32 l,hdB 32 l]:=by rw [z_lm hm,z_bi hf.1]
  have hj:=hR.j.raise n
  have hn:n<=greatN:=by
   unfold raiseA at h3
   split at h3
   ·injection h3 with q _;cases q
   ·omega
  obtain ⟨q1,q2⟩:=hj
  rw [h3] at q1 q2
  refine ⟨⟨(raiseTR a'.Y n).2,a'.t⟩,.inl ⟨h0,by rw [hs];rfl,⟨n,by rw [hs];exact nP_R h2 (by unfold greatN at hn;omega),Prod.ext q1.symm rfl⟩,rfl⟩,q2,h4.trans hR.t,by rw [h5];exact hR.s⟩
 ·have hp:=z_ri h3
  rw [mkSo] at hp
  have hm:(32:UInt8)∈l:=by
   by_cases q:(32:UInt8)∈l
   ·exact q
   ·exact absurd (z_lt q).2 (z_mZ hp)
  have hs:splL 32 l=[hdA 32 l,hdB 32 l]:=by rw [z_lm hm,z_bi (z_g1 32 (by decide) hp)]
  obtain ⟨q1,q2⟩:=hR.j.addT (mkS (hdB 32 l))
  rw [h3] at q1 q2
  refine ⟨⟨(addTR a'.Y (mkS (hdB 32 l))).2,hdB 32 l⟩,.inr (.inl ⟨h0,by rw [hs];rfl,by rw [hs];exact Prod.ext q1.symm rfl,by rw [hs];rfl⟩),q2,h4,?_⟩
  rw [h5]
  exact ⟨fun _=>z_mZ hp,fun _=>rfl⟩
 ·obtain ⟨q1,q2⟩:=hR.j.load c
  rw [h3] at q1 q2
  have hg:=z_tf h3
  unfold greatN at hg
  refine ⟨⟨(loadR a'.Y c).2,a'.t⟩,.inr (.inr ⟨h0,by rw [h2.1.n];decide,hR.s.1 h6,⟨c,by rw [<-hR.t];exact h2.1.to (fun q=>nP_R q (by omega)) (fun r hr q=>nP_R q (by omega)),Prod.ext q1.symm rfl⟩,rfl⟩),q2,h4.trans hR.t,by rw [h5];exact hR.s⟩
def Fm (i:Nat) (l:List UInt8):Prop:=(i=0/\ ∃n,l=lnN n)\/(i≠0/\((∃t:ByteArray,plainF t.data.toList=true/\l=lnT t)\/ ∃c:ACrd,allPl c.roles=true/\l=lnU c))
theorem z_u0 (i:Nat) (l:List UInt8) (a':GS) (a:FS) (b':GS) (hR:FG a a') (hF:Fm i l) (h:StepR i l a' b'): ∃b,StepP i l a b/\FG b b':=by
 rcases h with ⟨h0,h1,⟨n,h2,h3⟩,h4⟩ | ⟨h0,h1,h3,h4⟩ | ⟨h0,h1,h6,⟨c,h2,h3⟩,h4⟩
 ·rcases hF with ⟨_,m,rfl⟩ | ⟨q,_⟩
  ·obtain ⟨e1,e2,_⟩:=z_tY (z_q0 m)
   rw [z_q0] at h2
   obtain ⟨q1,q2⟩:=hR.j.raise n
   rw [h3] at q1 q2
   exact ⟨⟨(raiseA a.X n).2,a.t,a.s⟩,.inl ⟨h0,e1,⟨n,by rw [e2];exact nR_P h2,Prod.ext q1 rfl⟩,rfl,rfl⟩,q2,hR.t.trans h4.symm,by rw [h4];exact hR.s⟩
  ·exact absurd h0 q
 ·rcases hF with ⟨q,_⟩ | ⟨_,⟨t,ht,rfl⟩ | ⟨c,hc,rfl⟩⟩
  ·exact absurd q h0
  ·obtain ⟨e1,e2,_⟩:=z_tY (z_oo ht)
   rw [z_oo ht] at h3 h4
   obtain ⟨q1,q2⟩:=hR.j.addT (mkS t.data.toList)
   rw [show addTR a'.Y (mkS t.data.toList)=(0,b'.Y) from h3] at q1 q2
   refine ⟨⟨(addT a.X (mkS t.data.toList)).2,t.data.toList,true⟩,.inr (.inl ⟨h0,e1,by rw [e2];exact Prod.ext q1 rfl,e2.symm,rfl⟩),q2,h4.symm,?_⟩
   rw [h4]
   exact ⟨fun _=>z_mZ ht,fun _=>rfl⟩
  ·rw [z_sg hc] at h1
   exact absurd h1 (by simp [wdsU])
 ·rcases hF with ⟨q,_⟩ | ⟨_,⟨t,ht,rfl⟩ | ⟨d,hd,rfl⟩⟩
  ·exact absurd q h0
  ·rw [z_oo ht] at h1
   exact absurd rfl h1
  ·have hs:=z_sg hd
   obtain ⟨q1,q2⟩:=hR.j.load c
   rw [h3] at q1 q2
   have hw:hdA 32 (lnU d)≠tenW:=by
    have hm:(32:UInt8)∈lnU d:=by
     by_cases q:(32:UInt8)∈lnU d
     ·exact q
     ·rw [z_bi q] at hs;simp [wdsU] at hs
    rw [z_lm hm] at hs
    injection hs with hs _
    rw [hs]
    decide
   refine ⟨⟨(loadA a.X c).2,a.t,a.s⟩,.inr (.inr ⟨h0,hw,⟨c,⟨?_,?_,?_⟩,Prod.ext q1 rfl⟩,hR.s.2 h6,rfl,rfl⟩),q2,hR.t.trans h4.symm,by rw [h4];exact hR.s⟩
   ·rw [hR.t]
    exact h2.to (fun q=>nR_P q) (fun r hr q=>nR_P q)
   ·rw [hs];rfl
   ·rw [hs]
    show stW d.revoked=_\/stW d.revoked=_
    unfold stW
    split
    ·exact .inr rfl
    ·exact .inl rfl
def RPl (Y:RA):Prop:=(∀t∈Y.ts,plainF t.data.toList=true)/\ ∀c∈Y.cs,allPl c.roles=true
theorem RPl.step (i:Nat) (l:List UInt8) (a b:GS) (hI:RPl a.Y) (h:StepR i l a b):RPl b.Y:=by
 rcases h with ⟨h0,h1,⟨n,h2,h3⟩,h4⟩ | ⟨h0,h1,h3,h4⟩ | ⟨h0,h1,h6,⟨c,h2,h3⟩,h4⟩
 ·unfold raiseTR at h3
  split at h3
  ·injection h3 with q _;cases q
  ·injection h3 with _ q
   rw [<-q]
   exact hI
 ·obtain ⟨q1,q2⟩:=z_sx h3
  rw [q2]
  refine ⟨fun t ht=>?_,hI.2⟩
  have ht':t∈insT a.Y.ts (rank a.Y.ts (mkS ((splL 32 l).getD 1 []))) (mkS ((splL 32 l).getD 1 [])):=ht
  unfold insT at ht'
  rcases List.mem_append.1 ht' with q | q
  ·exact hI.1 t (List.mem_of_mem_take q)
  ·rcases List.mem_cons.1 q with q | q
   ·rw [q];exact q1
   ·exact hI.1 t (List.mem_of_mem_drop q)
 ·obtain ⟨q1,q2,q3,q4⟩:=z_tt h3
  refine ⟨fun t ht=>?_,fun d hd=>?_⟩
  ·rcases q3 t ht with q | q
   ·exact hI.1 t q
   ·rw [q];exact q1
  ·rcases q4 d hd with q | q
   ·exact hI.2 d q
   ·rw [q];exact q2
theorem z_sy {Y:RA} (h:RPl Y): ∀j l,(bodyR Y)[j]?=some l->Fm j l:=by
 intro j l hl
 cases j with
 | zero=>exact .inl ⟨rfl,Y.last,(Option.some.inj hl).symm⟩
 | succ j=>
  right
  refine ⟨Nat.succ_ne_zero j,?_⟩
  have hm:l∈Y.ts.flatMap fun t=>lnT t::(inTA Y.cs t).map lnU:=by
   have:(Y.ts.flatMap fun t=>lnT t::(inTA Y.cs t).map lnU)[j]?=some l:=hl
   exact List.mem_of_getElem? this
  obtain ⟨t,ht,hlt⟩:=List.mem_flatMap.1 hm
  rcases List.mem_cons.1 hlt with rfl | hlt
  ·exact .inl ⟨t,h.1 t ht,rfl⟩
  ·obtain ⟨c,hc,rfl⟩:=List.mem_map.1 hlt
   exact .inr ⟨c,h.2 c (List.mem_filter.1 hc).1,rfl⟩
theorem Fm.free {i:Nat} {l:List UInt8} (h:Fm i l):(10:UInt8)∉l:=by
 rcases h with ⟨_,n,rfl⟩ | ⟨_,⟨t,ht,rfl⟩ | ⟨c,hc,rfl⟩⟩
 ·exact z_s6 n
 ·exact z_td ht
 ·exact z_sl hc
def fs0:FS:=⟨⟨[],0,0⟩,[],false⟩
def gs0:GS:=⟨⟨[],[],0,0⟩,[]⟩
theorem fg0:FG fs0 gs0:=⟨⟨rfl,rfl,Nat.zero_le _,List.Pairwise.nil,Nat.zero_le _,fun _ h=>(by cases h),List.Pairwise.nil,List.Perm.refl _,List.Pairwise.nil,List.Perm.refl _⟩,rfl,by simp [fs0,gs0]⟩
def OkP (b:List UInt8):Prop:= ∃x,Run StepP 0 (lnL b) fs0 x/\catL (bodyA x.X)=b
def OkR (b:List UInt8):Prop:= ∃y,Run StepR 0 (lnL b) gs0 y/\catL (bodyR y.Y)=b
theorem ok_ok (b:List UInt8):OkP b↔OkR b:=by
 constructor
 ·rintro ⟨x,h1,h2⟩
  obtain ⟨y,k1,k2⟩:=Run.sim FG (fun _ _=>True) z_ro _ 0 fs0 gs0 x fg0 (fun _ _ _=>trivial) h1
  exact ⟨y,k1,by rw [<-k2.j.body];exact h2⟩
 ·rintro ⟨y,h1,h2⟩
  have hp:RPl y.Y:=Run.inv (fun a=>RPl a.Y) RPl.step _ 0 gs0 y ⟨fun _ h=>(by cases h),fun _ h=>(by cases h)⟩ h1
  have hf:=z_sy hp
  have hl:lnL b=bodyR y.Y:=by
   have:=z_oH (bodyR y.Y) [] (fun x hx=>by
    obtain ⟨j,hj⟩:=List.mem_iff_getElem?.1 hx
    exact (hf j x hj).free)
   rw [List.append_nil,h2,z_qG,List.append_nil] at this
   exact this
  obtain ⟨x,k1,k2⟩:=Run.sim (fun a b=>FG b a) Fm z_u0 _ 0 gs0 fs0 y fg0 (fun j l h=>by rw [Nat.zero_add];rw [hl] at h;exact hf j l h) h1
  exact ⟨x,k1,by rw [k2.j.body];exact h2⟩
theorem z_qM (a b:List ByteArray):lnB (a++b)=lnB a++lnB b:=by simp [lnB]
theorem z_ku (x:ByteArray) (b:List ByteArray):lnB (x::b)=x.data.toList++[10]++lnB b:=by simp [lnB]
structure DumpOk (S:Sto) (ln:ACrd->ByteArray) (Q:Fact):Prop where
 ro:Q.own=false
 keys:KeysOk S.ml
 few:S.ts.length<=1000
 ten: ∀t∈S.names,TenOk S t
 last:(decimS S.last).size<=100
 len:(lnB (lnsA S ln)).length<=1000000
 dec: ∀w,Q.p w->Pu Tryz.prog z_dv #[.int .u64 (S.last:Int)] w (.string (decimS S.last))
 ln: ∀w (c:Crd),RolOk c->LnOk c.a->Mem w [csF [c],Q]->Pu Tryz.prog z_fk #[.agg c.vs.toArray] w (.string (ln c.a))
theorem z_vi (S:Sto) (ln:ACrd->ByteArray):lnB (lnsA S ln)≠[]:=by
 unfold lnsA
 rw [z_ku]
 simp
theorem z_vS (w:World) (S:Sto) (ln:ACrd->ByteArray) (Q:Fact) (ok:DumpOk S ln Q) (hm:Mem w [roX (stoF S),oddF 2,firstF 0,Q]):
  Con Tryz.prog z_fA #[ptr S.b] w [] (fun v Fs=>v= .string (mkS (lnB (lnsA S ln)++sumL (lnB (lnsA S ln))))/\Fs=[]):=by
 have g:=z_hH w (Un [])
 have hne:=z_vi S ln
 have hlen:=ok.len
 refine z_d2 (cx:=z_gg w (Un [])) g z_kI [.c (.v (ptr S.b))] [roX (stoF S),oddF 2,firstF 0,Q] hm ?_ ⟨rfl,rfl,rfl,ok.ro,trivial⟩
 refine z_ac [] (fun β w' hs=>z_j0 w' S) ?_
 rintro v Fs ⟨bx,rfl,rfl⟩
 refine z_ds g 0 (fun _=>[.pointer none,.slice none 0 0]) rfl rfl (fun _=>rfl) (fun b=>?_)
 refine z_aB (α:=ByteArray) (ι:=DSt) (κ:=Unit) g rfl (cv:=[.pointer (some ⟨bx,0,none⟩)]) rfl (by kernel_rfl) 1 (Nat.le_refl 1) (fun pre i=>i.l=lnB pre/\pre=(lnsA S ln).take pre.length/\(i.p= .pointer none\/i.p=selfV b)) (fun _=>[]) (fun i=>bldF b i.p i.A i.l i.c) (fun _=>⟨rfl,rfl,trivial⟩) (fun _ _ _=>False) (fun _=>[]) (fun _=>[]) (fun _=>trivial) [bkF bx z_aa [ptr S.b]] [roX (stoF S),Q] [oddF 2,firstF 0] ⟨rfl,trivial⟩ (fun g h=>by
   simp only [List.mem_cons,List.not_mem_nil,or_false] at h
   rcases h with rfl | rfl<;>rfl) ⟨.pointer none,none,[],0⟩ ⟨rfl,rfl,.inl rfl⟩ (fun β w hs=>⟨β,Agr.refl _ _,?_⟩) (insRm (lnsA S ln)) (fun xs Fs'=>xs=lnsA S ln/\Fs'=[]) (fun pre Fs'=>Fs'=[]) (fun l w f0 R J Jx h1 h2 h3 h4 h5=>(z_vm l w bx S ln Q ok.ro ok.keys ok.few ok.ten ok.last ok.dec ok.ln f0 R J Jx h1 h2 h3 h4 h5).mono fun _ _ h=>h) ?_ ?_ ?_
 ·exact (hs.nilRow z_ab 1).perm [2,3,6,1,0,4,5]
 ·rintro ⟨p,A,l,c⟩ pre x args X W S0 l0 bs pn pn' hbs ⟨hl,hpre,hp⟩ ⟨rfl,rfl,hx⟩
  simp only at hl hp
  have hL:=z_mQ hpre hx
  have hle:(lnB pre).length+(x.data.toList.length+1)<=1000000:=by
   have h:=hlen
   rw [hL,z_qM,z_ku] at h
   simp only [List.length_append,List.length_cons,List.length_nil] at h
   omega
  have hxs:x.size=x.data.toList.length:=rfl
  have hxe:x++(⟨#[10]⟩:ByteArray)=mkS (x.data.toList++[10]):=by
   conv=>lhs;rw [<-z_iU x]
   exact z_ap _ [10]
  refine ⟨_,rfl,?_⟩
  refine ⟨by show x.size+1<=maxLen;rw [z_ag];omega,?_⟩
  refine z_ac [1,2] (fun β w' hs=>by
   have h:=z_ju w' b p A l c (x.data.toList++[10]) hp (by rw [hl];omega) (by rw [List.length_append];show _+1<=_;omega) (hs.mem.take (js:=[1,2]) rfl)
   rw [<-hxe] at h
   exact h) ?_
  rintro v Fs ⟨rfl,A2,c2,rfl⟩
  refine ⟨⟨selfV b,A2,l++(x.data.toList++[10]),c2⟩,⟨?_,z_mK hpre hx,.inr rfl⟩,Ent.mk' trivial rfl (fun β w' hs=>?_)⟩
  ·show l++(x.data.toList++[10])=lnB (pre++[x])
   rw [hl,z_qM,z_ku]
   simp [lnB]
  ·exact hs.perm [0,1]
 ·rintro xs ⟨p,A,l,c⟩ Fs ⟨hl,hpre,hp⟩ ⟨rfl,rfl⟩
  simp only at hl hp
  subst hl
  generalize lnB (lnsA S ln)=l at *
  refine z_ac [0,1] (fun β w' hs=>z_si w' b p A l c hne (hs.mem.take (js:=[0,1]) rfl)) ?_
  rintro v Fs ⟨rfl,gb,rfl,h1,h2,rfl⟩
  refine z_ac [0,1] (fun β w' hs=>z_rx w' b gb p l c hne h1 h2 (hs.mem.take (js:=[0,1]) rfl)) ?_
  rintro v Fs ⟨rfl,rfl⟩
  refine z_af (v:= .string (mkS (sumL l))) (fun β w' hs=>z_eK w' l hlen (hs.get 2 rfl) (hs.get 3 rfl)) ?_
  refine ⟨by show l.length+(sumL l).length<=maxLen;rw [z_ct,z_ag];omega,?_⟩
  intro β w' hs
  refine hs.fin [] ⟨?_,rfl⟩
  show Value.string (mkS l++mkS (sumL l))=_
  rw [z_ap]
 ·rintro e pre j Fs h
  exact h.elim
structure StoOk (S:Sto):Prop where
 ok:KeysOk S.ml
 tn:S.ts.length<=1000
 us: ∀T∈S.ts,KeysOk T.m/\T.us.length<=1000/\ ∀c∈T.us,CSz c.a
 all:(allU S.a.ts).length<=1000
theorem Jn.csl {X:ASto} {Y:RA} (h:Jn X Y):Y.cs.length<=256:=by
 rw [h.csp.length_eq]
 have key: ∀ts:ATs,(∀p∈ts,p.2.length<=32)->(ts.flatMap (·.2)).length<=ts.length*32:=by
  intro ts
  induction ts with
  | nil=>intro _;exact Nat.zero_le _
  | cons p r ih=>
   intro h
   have h1:=h p List.mem_cons_self
   have h2:=ih fun q hq=>h q (List.mem_cons_of_mem _ hq)
   rw [List.flatMap_cons,List.length_append,List.length_cons]
   omega
 have:=key X.ts fun p hp=>(h.tw p hp).len
 have:=h.len
 omega
theorem Jn.rsWf {X:ASto} {R:RS} (h:Jn X R.a) (tc:R.ts.length<=R.tc) (lc:R.cs.length<=R.lc) (mem: ∀c∈R.cs,inP R.ps c):R.Wf:=by
 have h1:R.ts.length=X.ts.length:=h.tlen
 have h2:=h.len
 have h3:=h.csl
 have h4:R.a.cs.length=R.cs.length:=List.length_map _
 refine ⟨tc,lc,by omega,by omega,h.tsr,mem,fun c hc=>?_⟩
 have:=h.wf (c:=c.a) (List.mem_map.2 ⟨c,hc,rfl⟩)
 exact ⟨this.r,this.r8⟩
theorem z_sH {a:ASec} (h:rightA a=true):ASz a:=by
 unfold rightA saltedA at h
 simp only [Bool.and_eq_true,decide_eq_true_eq] at h
 exact ⟨by omega,by omega,by omega,by omega⟩
theorem Jn.stoOk {S:Sto} {Y:RA} (h:Jn S.a Y):StoOk S:=by
 have hml:=z_ag
 have e0:S.ml.map (·.1)=S.a.ts.map (·.1):=by
  show _=(S.ts.map Ten.a).map _
  rw [Sto.ml,List.map_map,List.map_map]
  rfl
 have hl:S.ts.length=S.a.ts.length:=(List.length_map _).symm
 have h8:=h.len
 refine ⟨⟨by rw [e0];exact h.nd,fun p hp=>?_⟩,by omega,fun T hT=>?_,by rw [h.all];have:=h.csl;omega⟩
 ·have:p.1∈S.a.ts.map (·.1):=by rw [<-e0];exact List.mem_map.2 ⟨p,hp,rfl⟩
  obtain ⟨q,hq,e⟩:=List.mem_map.1 this
  have:=(h.tw q hq).sz
  rw [<-e,hml]
  omega
 ·have hw:=h.tw T.a (List.mem_map.2 ⟨T,hT,rfl⟩)
  have e1:T.m.map (·.1)=T.a.2.map (·.user):=by
   show _=(T.us.map Crd.a).map _
   rw [Ten.m,List.map_map,List.map_map]
   rfl
  have hc: ∀c∈T.us,CWf T.name S.last c.a:=fun c hc=>hw.cs c.a (List.mem_map.2 ⟨c,hc,rfl⟩)
  have hlen:T.us.length=T.a.2.length:=(List.length_map _).symm
  have h32:=hw.len
  refine ⟨⟨by rw [e1];exact hw.nd,fun p hp=>?_⟩,by omega,fun c hcm=>⟨z_sH (hc c hcm).s,by have:=(hc c hcm).r8;omega⟩⟩
  obtain ⟨c,hcm,rfl⟩:=List.mem_map.1 hp
  have:=(hc c hcm).n
  have h2:=z_nr c.user
  rw [show nameA c.user=_ from this] at h2
  rw [hml]
  show c.user.size<=_
  have h3:c.user.size<=32:=h2
  omega
end Go.Proofs.YtloeaiafphkjnaaGreatDoor.Sx
