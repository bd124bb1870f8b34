/- Texts joined: Rv6, Rw2, Rm5, Rl3, Rm6, Rv7, Rv8, Rl8, Rl9, Rv9, Rw3, Rw4, Rla, Rw5, TabR, Tabs, Tb2, Hnd, SxArg, Laid, Laid2. -/
import Derived.Test.YtloeaiafphkjnaaGreatDoorMRollLoads5
import Derived.Test.YtloeaiafphkjnaaGreatDoorMRollLoads4
import Derived.Test.YtloeaiafphkjnaaGreatDoorMRollLoads2
import Derived.Test.YtloeaiafphkjnaaGreatDoorMRollLoads3
import Derived.Lib.LaidTab
import Derived.Handed
import Derived.Shelf.Vars
import Derived.Below
import Derived.OpenShut
import Derived.ChangeArms
import Derived.LaidMore
set_option linter.unusedVariables false
set_option linter.unusedSimpArgs false
namespace Go.Proofs.YtloeaiafphkjnaaGreatDoor.Sx
open Go
attribute [local irreducible] Calls
def lnP (c:ACrd):ByteArray:=mkS (lnU c)
theorem z_qE (L:List (List UInt8)):lnB (L.map mkS)=catL L:=by
 induction L with
 | nil=>rfl
 | cons a r ih=>
  rw [List.map_cons,z_ku,z_dQ,ih,mkSo]
  simp
theorem z_vy (t:ByteArray):tenB++t=mkS (lnT t):=by
 conv=>lhs;rw [<-z_iU t]
 show mkS _++mkS _=_
 rw [z_ap]
 rfl
theorem z_uN (n:Nat):rlB++decimS n=mkS (lnN n):=by
 show mkS _++mkS _=_
 rw [z_ap]
 rfl
theorem z_vq (S:Sto) (t:ByteArray):usO S t=usL ((aten S.a.ts t).getD []):=by
 unfold usO
 rcases z_g4 t S.ts with ⟨A,T,B,_,h0,_,_,h3,_⟩ | ⟨_,h2,h3⟩
 ·rw [h0,show aten S.a.ts t=_ from h3]
  rfl
 ·rw [h3,show aten S.a.ts t=none from h2]
  exact (List.perm_nil.1 (z_jb (us:=[]) List.nodup_nil)).symm
theorem z_tc (S:Sto):S.names=sortK (S.a.ts.map (·.1)):=by
 unfold Sto.names Sto.ml Sto.a
 rw [List.map_map,List.map_map]
 rfl
theorem z_rr (S:Sto):lnsA S lnP=(bodyA S.a).map mkS:=by
 unfold lnsA bodyA
 rw [List.map_cons,<-z_uN,z_tc]
 congr 1
 rw [List.map_flatMap]
 congr 1
 funext t
 unfold tlA
 rw [List.map_cons,<-z_vy,z_vq,List.map_map]
 rfl
theorem z_lp {t:ByteArray} (h:plainF t.data.toList=true):t.size<=32:=z_jr h
theorem Jn.lnOk {X:ASto} {Y:RA} (h:Jn X Y) (hp:RPl Y) {c:ACrd} (hc:c∈Y.cs):LnOk c:=by
 have hw:=h.wf hc
 have hg:=h.great
 have hgl:=hw.g
 have hl:=z_nr c.user
 rw [hw.n] at hl
 refine ⟨fun e=>?_,hl,hw.s,by omega,hw.r8,fun r hr=>z_lp (List.all_eq_true.1 (hp.2 c hc) r hr)⟩
 have h1:=hw.n
 unfold nameA sizF at h1
 have hu:c.user=mkS []:=by
  apply ByteArray.ext
  apply Array.ext'
  exact e
 split at h1
 ·split at h1
  ·injection h1 with _ h2;exact absurd h2 (by decide)
  ·split at h1
   ·injection h1 with _ h2;exact absurd h2 (by decide)
   ·rename_i _ hne _
    injection h1 with h2 _
    have h3:=h2.trans hu
    exact hne (mkS1 h3)
 ·rename_i hne
  injection h1 with _ h2
  exact hne h2
theorem z_oJ {α:Type} (f:α->List (List UInt8)) (k:Nat): ∀l:List α,(∀x∈l,(catL (f x)).length<=k)->(catL (l.flatMap f)).length<=l.length*k
 | [],_=>Nat.zero_le _
 | a::r,h=>by
  have ih:=z_oJ f k r (fun x hx=>h x (List.mem_cons_of_mem _ hx))
  have ha:=h a List.mem_cons_self
  rw [List.flatMap_cons,z_i4,List.length_append,List.length_cons,Nat.add_mul]
  omega
theorem z_oX {X:ASto} {Y:RA} (h:Jn X Y) (hp:RPl Y):(catL (bodyR Y)).length<=700000:=by
 unfold bodyR
 have hg:=h.great
 unfold greatN at hg
 have hd:=z_my (n:=Y.last) (by rw [<-h.last];omega)
 have hl:(lnN Y.last).length=5+(Lib.decDigits Y.last).length:=by simp [lnN,lastW];omega
 have ht:=h.tlen
 have h8:=h.len
 rw [z_dQ,List.length_append,List.length_cons]
 have key:=z_oJ (fun t=>lnT t::(inTA Y.cs t).map lnU) 85000 Y.ts (fun t ht=>by
  rw [z_dQ,List.length_append,List.length_cons]
  have h1:=z_lp (hp.1 t ht)
  have h2:(lnT t).length=7+t.size:=by
   unfold lnT
   rw [List.length_append,List.length_cons]
   show 6+(t.size+1)=_
   omega
  have h3:(inTA Y.cs t).length<=32:=by
   rw [h.inTl]
   cases hq:aten X.ts t with
   | none=>exact Nat.zero_le _
   | some us=>
    obtain ⟨A,B,e,_⟩:=z_eQ hq
    exact (h.tw (t,us) (by rw [e];simp)).len
  have h4:(catL ((inTA Y.cs t).map lnU)).length<=(inTA Y.cs t).length*2651:=by
   have:=z_oJ (fun c=>[lnU c]) 2651 (inTA Y.cs t) (fun c hc=>by
    have:=z_om (h.lnOk hp (List.mem_filter.1 hc).1)
    rw [z_dQ,List.length_append,List.length_cons]
    show (jn 32 (wdsU c)).length+((catL []).length+1)<=_
    show (jn 32 (wdsU c)).length+(0+1)<=_
    omega)
   rw [<-List.map_eq_flatMap] at this
   exact this
  omega)
 omega
theorem z_rB {S:Sto} {Y:RA} (h:Jn S.a Y) (hp:RPl Y):DumpOk S lnP powF:=by
 have hk:=h.stoOk
 have hg:=h.great
 unfold greatN at hg
 have hg2:S.last<=9007199254740992:=hg
 refine ⟨rfl,hk.ok,hk.tn,fun t ht=>?_,?_,?_,fun w hw=>z_du w S.last (by omega) (z_fb hw),fun w c hz hc hm=>z_vA w c hz hc hm⟩
 ·have h1:=z_gq (z_sc ht)
  rcases z_g4 t S.ts with ⟨A,T,B,e,h0,hn,_,_,_⟩ | ⟨h2,_,_⟩
  ·have hT:T∈S.ts:=by rw [e];simp
   obtain ⟨q1,q2,q3⟩:=hk.us T hT
   have hTa:T.a∈S.a.ts:=List.mem_map.2 ⟨T,hT,rfl⟩
   refine ⟨A,B,T,e,h0,q1,q2,q3,?_,fun c hc=>?_⟩
   ·have h3:=(h.tw T.a hTa).sz
    have h4:T.name.size<=32:=h3
    rw [<-hn]
    omega
   ·refine h.lnOk hp (h.csp.mem_iff.2 (List.mem_flatMap.2 ⟨T.a,hTa,List.mem_map.2 ⟨c,hc,rfl⟩⟩))
  ·exact absurd h2 h1
 ·have:=z_jw (n:=S.last) (by omega)
  omega
 ·rw [z_rr,z_qE,h.body]
  have:=z_oX h hp
  omega
def dumpL (X:ASto):List UInt8:=catL (bodyA X)++sumL (catL (bodyA X))
theorem z_rN (w:World) (S:Sto) {Y:RA} (h:Jn S.a Y) (hp:RPl Y) (hm:Mem w [roX (stoF S),oddF 2,firstF 0,powF]):
  Con Tryz.prog z_fA #[ptr S.b] w [] (fun v Fs=>v= .string (mkS (dumpL S.a))/\Fs=[]):=by
 have k:=z_vS w S lnP powF (z_rB h hp) hm
 rw [z_rr,z_qE] at k
 exact k
def dumpR (Y:RA):List UInt8:=catL (bodyR Y)++sumL (catL (bodyR Y))
theorem z_r5 {L M:List (List UInt8)} {Z:List (List UInt8)} (h:Z=L++M):(catL L).length<=(catL Z).length:=by
 rw [h,z_i4,List.length_append]
 omega
theorem z_sd (x:List UInt8):catL [x]=x++[10]:=by simp [catL]
theorem z_nc {α:Type} {l:List α} {i:Nat} {x:α} (h:l[i]?=some x):l=l.take i++x::l.drop (i+1):=by
 conv=>lhs;rw [<-List.take_append_drop i l]
 obtain ⟨h1,e⟩:=List.getElem?_eq_some_iff.1 h
 rw [List.drop_eq_getElem_cons h1,e]
set_option maxHeartbeats 1000000 in
theorem z_vc (w:World) (R:RS) {X:ASto} (hj:Jn X R.a) (hp:RPl R.a) (hw:R.Wf) (hm:Mem w [roX (rsF R),oddF 1]):
  Pu Tryz.prog z_dW #[ptr R.b] w (.string (mkS (dumpR R.a))):=by
 have g:=z_fT w (Un [])
 have hml:=z_ag
 have h:(rsF R).p w:=hm.fact (roX (rsF R)) (by simp)
 have hl: ∀k,(rsF R).D k->k<w.heap.size:=fun k hk=>hm.flt (roX (rsF R)) (by simp) k hk
 have h1:(oddF 1).p w:=hm.fact _ (by simp)
 have ho: ∀w',(oldF w).p w'->(rsF R).p w':=fun w' h2=>z_cQ h hl h2
 have hg:=hj.great
 have hge:=hj.last
 unfold greatN at hg
 have hgl:R.last<18446744073709551616:=by have:X.last=R.last:=hge;omega
 have hbl:=z_oX hj hp
 have htn:=hw.tn
 have hok: ∀c∈R.cs,LnOk c.a:=fun c hc=>hj.lnOk hp (List.mem_map.2 ⟨c,hc,rfl⟩)
 have htz: ∀t∈R.ts,t.size<=32:=fun t ht=>z_lp (hp.1 t ht)
 refine z_dt (cx:=z_c1 w (Un [])) g z_hX rfl rfl (β:=Va.z) [.c (.v (ptr R.b))] 0 [] [oldF w] rfl rfl (z_aw rfl) ?_
 refine z_an g ?_
 refine z_an g ?_
 refine z_an g ?_
 refine ⟨.int .u64 (R.last:Int),fun β w' hs=>bkc (rs_bk (ho w' (hs.get 0 rfl))) rfl,?_⟩
 refine z_af (v:= .string (decimS R.last)) (fun β w' hs=>dec_c w' R.last hgl) ?_
 have l2:=z_my hgl
 refine ⟨by show 5+(Lib.decDigits R.last).length<=maxLen;omega,?_⟩
 refine ⟨by rw [z_ar];show 5+(Lib.decDigits R.last).length+1<=maxLen;omega,?_⟩
 refine z_an g ?_
 refine ⟨.slice R.tA R.ts.length R.tc,fun β w' hs=>bkc (rs_bk (ho w' (hs.get 0 rfl))) rfl,?_⟩
 obtain ⟨Ft,hFt⟩: ∃Ft:ByteArray->List (List UInt8),∀t,Ft t=lnT t::(inTA R.a.cs t).map lnU:=⟨_,fun _=>rfl⟩
 have hB:bodyR R.a=lnN R.last::R.ts.flatMap Ft:=by
  have:Ft=fun t=>lnT t::(inTA R.a.cs t).map lnU:=funext hFt
  rw [this]
  rfl
 obtain ⟨L,hL⟩: ∃L:Nat->List (List UInt8),∀i,L i=lnN R.last::(R.ts.take i).flatMap Ft:=⟨_,fun _=>rfl⟩
 have hL0:mkS [108,97,115,116,32]++mkS (Lib.decDigits R.last)++mkS [10]=mkS (catL (L 0)):=by
  rw [hL,z_ap,z_ap]
  simp [catL,lnN,lastW]
 refine z_ai (ι:=Nat) 0 (fun i=>[(0,.c (.v (ptr R.b))),(3,.c (.v (.string (mkS (catL (L i)))))),(20,.c (.v (.slice R.tA R.ts.length R.tc))),(21,.c (.v (.int .i64 (R.ts.length:Int)))),(22,.c (.v (.int .i64 (i:Int))))]) (fun _=>[]) (fun _=>[oldF w])
  (fun i=>i<=R.ts.length) (fun i=>R.ts.length - i) 0 (Nat.zero_le _) (Ent.mk' ⟨rfl,congrArg (fun s=>some (SV.c (SL.v (Value.string s)))) hL0,rfl,rfl,rfl,trivial⟩ rfl (fun β w' hs=>hs)) g ?_
 intro i hi
 refine BIf.dec (fun hlt=>?_) (fun hge=>?_)
 ·have hlt0:(i:Int)<R.ts.length:=hlt
  obtain ⟨t,ht,htm⟩:=at_lt (show i<R.ts.length by omega)
  obtain ⟨ad,hA,_⟩:=(rs_ts h).2 (by omega)
  have htz1:=htz t htm
  have hsp:=z_nc ht
  have hL1:L (i+1)=L i++Ft t:=by
   rw [hL,hL,List.take_add_one,ht,List.flatMap_append,List.cons_append]
   simp
  have hBL:bodyR R.a=L i++(Ft t++(R.ts.drop (i+1)).flatMap Ft):=by
   rw [hB,hL,List.cons_append]
   conv=>lhs;rw [hsp]
   rw [List.flatMap_append,List.flatMap_cons]
  have hLi:=z_r5 hBL
  refine ⟨ad,i,hA,rfl,by omega,.string t,fun β w' hs=>Rd.cell1 (by have h:=rs_ts (ho w' (hs.get 0 rfl));rw [hA] at h;exact h) (by simp [strs,ht]),?_⟩
  refine ⟨by show 7+t.size<=maxLen;omega,?_⟩
  refine ⟨by rw [z_ar];show 7+t.size+1<=maxLen;omega,?_⟩
  refine ⟨by rw [z_ar,z_ar];show (catL (L i)).length+(7+t.size+1)<=maxLen;omega,?_⟩
  refine z_ac [] (fun β w' hs=>z_nG w' R t (ho w' (hs.get 0 rfl)) (fun k hk=>Nat.lt_of_lt_of_le (hl k hk) hs.chg.size) hw.ln) ?_
  rintro v Fs ⟨A2,c2,rfl,hA2,rfl⟩
  obtain ⟨us,hus⟩: ∃us,inTs R.cs t=us:=⟨_,rfl⟩
  have hua:inTA R.a.cs t=us.map Crd.a:=by rw [<-hus,z_tZ];rfl
  have hum: ∀c∈us,c∈R.cs:=fun c hc=>by rw [<-hus] at hc;exact (List.mem_filter.1 hc).1
  have hul:us.length<=1000:=by
   rw [<-hus]
   exact Nat.le_trans (List.length_filter_le _ _) hw.ln
  rw [hus] at hA2 ⊢
  have hF:Ft t=lnT t::us.map (fun c=>lnU c.a):=by rw [hFt,hua,List.map_map];rfl
  have hm0:mkS (catL (L i))++((mkS [116,101,110,97,110,116,32]++t)++mkS [10])=mkS (catL (L i++lnT t::(us.take 0).map (fun c=>lnU c.a))):=by
   conv=>lhs;rw [<-z_iU t]
   show mkS _++((mkS _++mkS t.data.toList)++mkS _)=_
   rw [z_ap,z_ap,z_ap,z_i4]
   simp [catL,lnT,tenW]
  refine z_ai (ι:=Nat) 0 (fun k=>[(0,.c (.v (ptr R.b))),(3,.c (.v (.string (mkS (catL (L i++lnT t::(us.take k).map (fun c=>lnU c.a))))))),(20,.c (.v (.slice R.tA R.ts.length R.tc))),(21,.c (.v (.int .i64 (R.ts.length:Int)))),(22,.c (.v (.int .i64 (i:Int)))),(33,.c (.v (.slice A2 us.length c2))),(34,.c (.v (.int .i64 (us.length:Int)))),(35,.c (.v (.int .i64 (k:Int))))]) (fun _=>[]) (fun _=>[crowF A2 us c2,oldF w])
   (fun k=>k<=us.length) (fun k=>us.length - k) 0 (Nat.zero_le _) (Ent.mk' ⟨rfl,congrArg (fun s=>some (SV.c (SL.v (Value.string s)))) hm0,rfl,rfl,rfl,rfl,rfl,rfl,trivial⟩ rfl (fun β w' hs=>hs)) g ?_
  intro k hk
  refine BIf.dec (fun klt=>?_) (fun kge=>?_)
  ·have klt0:(k:Int)<us.length:=klt
   obtain ⟨c,hc,hcm⟩:=at_lt (show k<us.length by omega)
   have hcR:=hum c hcm
   obtain ⟨ad2,hAd2⟩:=hA2 (by omega)
   obtain ⟨hi1,hi2,_⟩:=hw.mem c hcR
   have hspc:=z_nc hc
   have hBL2:bodyR R.a=(L i++lnT t::(us.take (k+1)).map (fun c=>lnU c.a))++((us.drop (k+1)).map (fun c=>lnU c.a)++(R.ts.drop (i+1)).flatMap Ft):=by
    rw [hBL,hF]
    have e:us.map (fun c=>lnU c.a)=(us.take (k+1)).map (fun c=>lnU c.a)++(us.drop (k+1)).map (fun c=>lnU c.a):=by rw [<-List.map_append,List.take_append_drop]
    rw [e]
    simp only [List.append_assoc,List.cons_append]
   have hLk:=z_r5 hBL2
   have htk:L i++lnT t::(us.take (k+1)).map (fun c=>lnU c.a)=(L i++lnT t::(us.take k).map (fun c=>lnU c.a))++[lnU c.a]:=by
    rw [List.take_add_one,hc]
    simp
   rw [htk,z_i4,z_sd,List.length_append,List.length_append] at hLk
   refine ⟨ad2,k,hAd2,rfl,by omega,c.vs,rfl,fun β w' hs=>z_mr (z_am (hs.get 0 rfl)) hAd2 hc,?_⟩
   refine z_af (v:= .string (mkS (lnU c.a))) (fun β w' hs=>z_ul w' c (rs_po (ho w' (hs.get 1 rfl)) _ hi1) (rs_po (ho w' (hs.get 1 rfl)) _ hi2) (hok c hcR)) ?_
   obtain ⟨lu,hlu⟩: ∃lu,lnU c.a=lu:=⟨_,rfl⟩
   rw [hlu] at hLk htk ⊢
   have hl1:([10]:List UInt8).length=1:=rfl
   refine ⟨by show lu.length+1<=maxLen;omega,?_⟩
   refine ⟨by rw [z_ar];show (catL _).length+(lu.length+1)<=maxLen;omega,?_⟩
   refine ⟨((k+1:Nat):Int),by rw [wrap_i64 (by omega) (by omega)];rfl,?_⟩
   have e1:mkS (catL (L i++lnT t::(us.take k).map (fun c=>lnU c.a)))++(mkS lu++mkS [10])=mkS (catL (L i++lnT t::(us.take (k+1)).map (fun c=>lnU c.a))):=by
    rw [htk,z_ap,z_ap,z_i4 _ [lu],z_sd]
   exact ⟨k+1,by omega,by omega,Ent.mk' ⟨rfl,congrArg (fun s=>some (SV.c (SL.v (Value.string s)))) e1,rfl,rfl,rfl,rfl,rfl,rfl,trivial⟩ rfl (fun β w' hs=>((hs.keepB (List.nil_sublist _)).perm [0,1]).lower)⟩
  ·have kge0: ¬(k:Int)<us.length:=kge
   refine ⟨(((i+1):Nat):Int),by rw [wrap_i64 (by omega) (by omega)];rfl,?_⟩
   have e1:mkS (catL (L i++lnT t::(us.take k).map (fun c=>lnU c.a)))=mkS (catL (L (i+1))):=by
    rw [hL1,hF,List.take_of_length_le (by omega)]
   exact ⟨i+1,by omega,by omega,Ent.mk' ⟨rfl,congrArg (fun s=>some (SV.c (SL.v (Value.string s)))) e1,rfl,rfl,rfl,trivial⟩ rfl (fun β w' hs=>hs.perm [1])⟩
 ·have hge0: ¬(i:Int)<R.ts.length:=hge
  have hLe:L i=bodyR R.a:=by rw [hL,hB,List.take_of_length_le (by omega)]
  rw [hLe]
  refine z_an g ?_
  refine z_af (v:= .string (mkS (dumpR R.a))) (fun β w' hs=>z_i7 w' (catL (bodyR R.a)) (by omega) (Rd.old h1 (hs.get 0 rfl))) ?_
  refine z_fI g ?_
  intro β w' hs
  exact hs.fin [] ⟨rfl,rfl⟩
theorem z_iP (w:World) (s:List UInt8) (ok:Bool) (hL:s.length<=1000000):Con Tryz.prog z_hK #[.string (mkS s),.bool ok] w [] fun v Fs=> ∃A l c b,v= .tuple #[.slice A l.length c,.bool b]/\l.length<=c/\((b=true/\ok=true/\decP s=some l)\/(b=false/\(ok=false\/decP s=none)))/\Fs=[browF z_ab A l c]:=by
 have g:=z_jx w (Un [])
 refine z_ad (cx:=z_gx w (Un [])) g z_lU rfl rfl (β:=Va.z) [.c (.v (.string (mkS s))),.c (.v (.bool ok))] 0 [] [] rfl rfl (Sat.start rfl) ?_
 refine z_ac [] (fun β w' hs=>z_ti w' s hL) ?_
 rintro v Fs ⟨A,l,c,e,rfl,hd,hlc,rfl⟩
 cases ok with
 | false=>
  intro β w' hs
  exact hs.fin [0] ⟨A,l,c,false,rfl,hlc,.inr ⟨rfl,.inl rfl⟩,rfl⟩
 | true=>
  intro β w' hs
  refine hs.fin [0] ⟨A,l,c,decide (e=0),rfl,hlc,?_,rfl⟩
  rcases hd with ⟨h1,h2⟩ | ⟨h1,h2⟩
  ·exact .inl ⟨by simp [h1],rfl,h2⟩
  ·exact .inr ⟨by simp [h1],.inr h2⟩
theorem z_rg (w:World) (s:List UInt8) (d:UInt8) (hs:s.length<=1000000) (hm:mlF.p w):Pu Tryz.prog z_mT #[.string (mkS s),.string (mkS [d])] w (.tuple #[.string (mkS (hdA d s)),.string (mkS (hdB d s)),.bool (decide (d∈s))]):=by
 obtain ⟨m,hm⟩:=hm
 have hsz:(mkS s).size<4294967281:=by show s.length<_;omega
 refine pu_of (Calls.mono (Tryz.strings_Cut (mkS s) (mkS [d]) m w hsz hm) ?_)
 rintro e w' ⟨rfl,q,rfl⟩
 refine ⟨_,rfl,?_,⟨rfl,rfl,rfl,Nat.le_refl _,fun _ _ _=>rfl⟩⟩
 rw [mkSo,mkSo,z_vf]
 rfl
theorem z_qB {d:UInt8}: ∀ {s:List UInt8},s≠[]->(hdB d s).length<s.length
 | [],h=>absurd rfl h
 | c::r,_=>by
  rw [z_kA]
  split
  ·simp
  ·cases r with
   | nil=>simp [hdB]
   | cons a t=>
    have:=z_qB (d:=d) (s:=a::t) (by simp)
    simp only [List.length_cons] at this ⊢
    omega
def insLn (L:List (List UInt8)) (pre:List (List UInt8)) (x:List UInt8) (args:Array Value) (X:Fact):Prop:=args= #[.int .i64 ((pre.length+1:Nat):Int),.string (mkS x)]/\X=noF/\L[pre.length]?=some x
def lnEnd (L:List (List UInt8)) (J Jx:List (List UInt8)->Fact->Prop) (Fs:List Fact):Prop:=
 ∃f Fs',Fs=f::Fs'/\((∃xs,J xs f/\xs=L/\Fs'=[])\/(∃pre,Jx pre f/\Fs'=[]))
theorem z_pk (l:Nat) (w:World) (bx:Nat) (s:List UInt8) (hs:s.length<=1000000) (f0 R:Fact) (J Jx:List (List UInt8)->Fact->Prop) (hJ0:J [] f0) (hJo: ∀pre f,J pre f->f.own=true) (hRo:R.own=false) (hY:Yc Tryz.prog l J Jx R (insLn (lnL s)))
  (hm:Mem w (f0::R::[bkF bx z_ah [.string (mkS s)],mlF])):
  Con Tryz.prog z_eu #[.func (.yield l) #[] #[],.pointer (some ⟨bx,0,none⟩)] w [f0,bkF bx z_ah [.string (mkS s)]] (fun _ Fs=>lnEnd (lnL s) J Jx Fs):=by
 have g:=z_jI w (Un [f0,bkF bx z_ah [.string (mkS s)]]) [bx]
 have hs0:Sat (z_dM w (Un [f0,bkF bx z_ah [.string (mkS s)]]) [bx]) (Va.of fun _=>bx) 1 [] (f0::R::[bkF bx z_ah [.string (mkS s)],mlF]) w:=by
  refine hm.sat rfl (fun f hf ho k hk=>?_) ⟨Nat.le_refl 1,fun i hi=>by obtain rfl:i=0:=Nat.lt_one_iff.1 hi;rfl⟩
  simp only [List.mem_cons,List.not_mem_nil,or_false] at hf
  rcases hf with rfl | rfl | rfl | rfl
  ·exact ⟨_,by simp,hk⟩
  ·rw [hRo] at ho;cases ho
  ·exact ⟨bkF bx z_ah [.string (mkS s)],by simp,hk⟩
  ·cases ho
 have hs1:=hs0.toBk 2 rfl 0 Nat.zero_lt_one rfl
 refine z_ad (cx:=z_dM w (Un [f0,bkF bx z_ah [.string (mkS s)]]) [bx]) g z_lZ rfl rfl (β:=Va.of fun _=>bx) [.c (.v (.func (.yield l) #[] #[])),.c (.p 0 0)] 1 _ _ rfl rfl hs1 ?_
 refine z_ai (ι:=List (List UInt8)×Fact×List UInt8) 1 (fun i=>[(0,.c (.v (.func (.yield l) #[] #[]))),(1,.c (.p 0 0)),(3,.c (.v (.int .i64 ((i.1.length+1:Nat):Int))))]) (fun i=>[⟨0,z_ah,[.v (.string (mkS i.2.2))]⟩]) (fun i=>[i.2.1,R,mlF])
  (fun i=>J i.1 i.2.1/\lnL s=i.1++lnL i.2.2/\i.1.length+i.2.2.length<=s.length) (fun i=>i.2.2.length) ([],f0,s) ⟨hJ0,rfl,by simp⟩ (Ent.mk' ⟨rfl,rfl,rfl,trivial⟩ rfl (fun β w' hs=>hs)) g ?_
 rintro ⟨pre,f,t⟩ ⟨hJ,hpre,hi⟩
 simp only at hJ hpre hi
 have hfo:=hJo _ _ hJ
 simp only
 refine BIf.not (BIf.dec (fun h0=>?_) (fun h0=>?_))
 ·obtain rfl:t=[]:=mkS1 h0
  intro β w' hs
  exact (hs.keepB (List.nil_sublist _)).fin [0] ⟨f,[],rfl,.inl ⟨pre,hJ,by rw [hpre,z_qG,List.append_nil],rfl⟩⟩ rfl rfl rfl ⟨hfo,trivial⟩
 have ht:t≠[]:=fun e=>h0 (by rw [e];rfl)
 have hst:=z_po ht
 have hlt:=z_qB (d:=10) ht
 refine z_af (v:= .tuple #[.string (mkS (hdA 10 t)),.string (mkS (hdB 10 t)),.bool (decide ((10:UInt8)∈t))]) (fun β w' hs'=>z_rg w' t 10 (by omega) (hs'.get 2 rfl)) ?_
 have hx:(lnL s)[pre.length]?=some (hdA 10 t):=by rw [hpre,hst];simp
 refine z_bq (X:=noF) (x:=hdA 10 t) hY 0 1 rfl hJ hfo rfl hRo (by decide) (fun β=>⟨rfl,rfl,hx⟩) rfl (fun β w _=>⟨trivial,fun k hk=>hk.elim,fun k _ h=>h.elim⟩) ?_ ?_
 ·intro f2 hfo2 hJ2
  refine ⟨(((pre.length+1+1):Nat):Int),by rw [wrap_i64 (by omega) (by omega)];rfl,?_⟩
  have e:(pre++[hdA 10 t]).length=pre.length+1:=by rw [List.length_append];rfl
  refine ⟨(pre++[hdA 10 t],f2,hdB 10 t),⟨hJ2,by show lnL s=(pre++[hdA 10 t])++lnL (hdB 10 t);rw [hpre,hst,List.append_assoc];rfl,by show (pre++[hdA 10 t]).length+(hdB 10 t).length<=_;omega⟩,hlt,?_⟩
  simp only [e]
  exact Ent.mk' ⟨rfl,rfl,rfl,trivial⟩ rfl (fun β w' hs=>hs)
 ·intro f2 hfo2 hJ2
  intro β w' hs
  exact (hs.keepB (List.nil_sublist _)).fin [0] ⟨f2,_,rfl,.inr ⟨_,hJ2,rfl⟩⟩ rfl rfl rfl ⟨hfo2,trivial⟩
theorem z_kG (w:World) (t:ByteArray):Con Tryz.prog z_j3 #[.string t] w [] (fun v Fs=> ∃bx,v= .func (.func z_eu) #[] #[.pointer (some ⟨bx,0,none⟩)]/\Fs=[bkF bx z_ah [.string t]]):=by
 refine z_ad (cx:=z_i5 w (Un [])) (z_lg w (Un [])) z_nN rfl rfl (β:=Va.z) [.c (.v (.string t))] 0 [] [] rfl rfl (Sat.start rfl) ?_
 intro β w' hs
 exact hs.ofBk.fin [0] ⟨β 0,rfl,rfl⟩
theorem z_mk (s:List UInt8) (d:UInt8):Lib.indexB (mkS s) (mkS [d])=if d∈s then ((hdA d s).length:Int) else -1:=by
 rw [<-z_ox]
 show Lib.index (mkS s).data.toList (mkS [d]).data.toList=_
 rw [mkSo,mkSo]
theorem z_jB (d:UInt8): ∀(n:Nat) (s:List UInt8),s.length<=n->Lib.splitB (mkS [d]) 0 (Lib.countB (mkS s) (mkS [d])) (mkS s)=(splL d s).map mkS
 | n,s,hn=>by
  by_cases h:d∈s
  ·have hi:Lib.indexB (mkS s) (mkS [d])=((hdA d s).length:Nat):=by rw [z_mk,if_pos h]
   have hs:=z_g3 h
   have hl:s.length=(hdA d s).length+(hdB d s).length+1:=by
    have:=congrArg List.length hs
    simp only [List.length_append,List.length_cons] at this
    omega
   have htd: ∀a b:List UInt8,s=a++d::b->s.take a.length=a/\s.drop (a.length+1)=b:=by
    intro a b e
    subst e
    exact ⟨by simp,by rw [<-List.drop_drop,List.drop_left];rfl⟩
   obtain ⟨t1,t2⟩:=htd _ _ hs
   have e1:(mkS s).extract ((hdA d s).length+(mkS [d]).size) (mkS s).size=mkS (hdB d s):=by
    rw [show (mkS [d]).size=1 from rfl,show (mkS s).size=s.length from rfl,z_dL s _ _ (Nat.le_refl _),List.take_length,t2]
   have e0:(mkS s).extract 0 ((hdA d s).length+0)=mkS (hdA d s):=by
    rw [Nat.add_zero,z_dL s _ _ (by omega),List.drop_zero,t1]
   rw [Lib.countB_hit (mkS s) (mkS [d]) _ (Nat.le_refl 1) hi,Nat.add_comm,Lib.splitB_hit _ _ _ _ _ hi,e0,e1]
   cases n with
   | zero=>omega
   | succ n=>
    rw [z_jB d n (hdB d s) (by omega)]
    conv=>rhs;rw [hs]
    rw [z_ih _ (z_iY d s)]
    rfl
  ·have hi:Lib.indexB (mkS s) (mkS [d])= -1:=by rw [z_mk,if_neg h]
   rw [Lib.splitB_miss _ _ _ _ hi,z_bi h]
   rfl
theorem z_rP (d:UInt8) (s:List UInt8):Lib.countB (mkS s) (mkS [d])+1=(splL d s).length:=by
 have h:=Lib.splitB_all (mkS [d]) (Nat.le_refl 1) 0 _ (mkS s) rfl
 rw [z_jB d _ s (Nat.le_refl _),List.length_map] at h
 exact h.symm
theorem z_rQ (w:World) (s:List UInt8) (d:UInt8) (hs:s.length<=1000000) (hm:mlF.p w):Con Tryz.prog z_lj #[.string (mkS s),.string (mkS [d])] w [] fun v Fs=> ∃b,v= .slice (some ⟨b,0,none⟩) (splL d s).length (splL d s).length/\Fs=[prowF (some ⟨b,0,none⟩) (splL d s) (splL d s).length]:=by
 obtain ⟨m,hm⟩:=hm
 have hsz:(mkS s).size<4294967281:=by show s.length<_;omega
 refine z_bm (Calls.mono (Tryz.strings_Split (mkS s) (mkS [d]) m w hsz hm (Nat.le_refl 1)) ?_)
 rintro e w' ⟨rfl,rfl⟩
 rw [z_rP,z_jB d _ s (Nat.le_refl _),List.map_map]
 have hl:=z_jf d s
 generalize splL d s=L at hl ⊢
 have hw:(w.alloc (.cells (L.map (Value.string∘mkS)).toArray 9)).heap[w.heap.size]?=some (.cells (L.map (Value.string∘mkS)).toArray 9 (0,0)):=World.alloc_heap_new w _
 refine ⟨_,rfl,[prowF (some ⟨w.heap.size,0,none⟩) L L.length],⟨w.heap.size,rfl,rfl⟩,?_,⟨fun f hf=>?_,fun f hf k hk=>?_,List.pairwise_singleton _ _⟩,⟨rfl,trivial⟩,fun f hf k hk=>?_⟩
 ·rw [Un.nil];exact Chg.alloc w _
 ·obtain rfl:=List.mem_singleton.1 hf
  refine ⟨by simp,.inr ⟨w.heap.size,L.length,_,rfl,Nat.zero_le _,hw,Nat.le_refl _,by rw [z_ag];omega,by simp,?_⟩⟩
  simp only [Nat.mul_one]
  rw [List.take_of_length_le (by rw [List.length_map];exact Nat.le_refl _)]
  rfl
 ·obtain rfl:=List.mem_singleton.1 hf
  obtain rfl:k=w.heap.size:=(Option.some.inj hk).symm
  rw [World.size_alloc];omega
 ·obtain rfl:=List.mem_singleton.1 hf
  exact .inr (Nat.le_of_eq (Option.some.inj hk))
def UsrOut (t l:List UInt8) (v:Value) (Fs:List Fact):Prop:=
 (∃c:Crd,UsrP t l c.a/\v= .tuple #[.agg c.vs.toArray,.bool true]/\Fs=[csF [c]])\/
 ((∀c,¬UsrP t l c)/\(∃x:CrdV,v= .tuple #[.agg x.vs.toArray,.bool false])/\Fs=[])
theorem z_t0 {α:Type} {w:List α} (h:w.length=10): ∃a b c d e f g i j k,w=[a,b,c,d,e,f,g,i,j,k]:=by
 match w,h with
 | [a,b,c,d,e,f,g,i,j,k],_=>exact ⟨a,b,c,d,e,f,g,i,j,k,rfl⟩
theorem z_lK {d:UInt8}: ∀ {l:List UInt8},∀x∈splL d l,x.length<=l.length
 | [],x,h=>by
  obtain rfl:x=[]:=by simpa [splL] using h
  exact Nat.le_refl _
 | c::r,x,h=>by
  have ih:=fun x hx=>z_lK (d:=d) (l:=r) x hx
  rw [z_eM] at h
  split at h
  ·rcases List.mem_cons.1 h with rfl | h
   ·exact Nat.zero_le _
   ·have:=ih x h
    rw [List.length_cons]
    omega
  ·cases hq:splL d r with
   | nil=>exact absurd hq (z_f6 _ _)
   | cons a t=>
    rw [hq] at h ih
    rcases List.mem_cons.1 h with rfl | h
    ·have:=ih a List.mem_cons_self
     simp only [List.length_append,List.length_cons,List.length_nil]
     omega
    ·have:=ih x (List.mem_cons_of_mem _ h)
     rw [List.length_cons]
     omega
structure D8 where
 A:Option Addr
 x:List UInt8
 c:Nat
 b:Bool
set_option maxHeartbeats 2000000 in
theorem z_vz (w:World) (t l:List UInt8) (hl:l.length<=400000) (hm:Mem w [mlF,errF 5,errF 6,powF]):Con Tryz.prog z_lP #[.string (mkS t),.string (mkS l)] w [] (UsrOut t l):=by
 have g:=z_lX w (Un [])
 refine z_lS (cx:=z_gK w (Un [])) g z_os [.c (.v (.string (mkS t))),.c (.v (.string (mkS l)))] [mlF,errF 5,errF 6,powF] hm ?_
 refine z_an g ?_
 refine z_an g ?_
 refine z_ac [] (fun β w' hs=>z_rQ w' l 32 (by omega) (hs.get 0 rfl)) ?_
 rintro v Fs ⟨b,rfl,rfl⟩
 obtain ⟨W,hW⟩: ∃W,splL 32 l=W:=⟨_,rfl⟩
 have hU: ∀c,UsrP t l c->Par nP (mkS t) W c/\W.getD 0 []=userW/\(W.getD 3 []=onW\/W.getD 3 []=offW):=fun c h=>by rw [<-hW];exact h
 have hle: ∀x∈W,x.length<=400000:=fun x hx=>by
  rw [<-hW] at hx
  exact Nat.le_trans (z_lK x hx) hl
 rw [hW]
 refine z_an g ?_
 refine BIf.not (BIf.dec (fun h10=>?_) (fun h10=>?_))
 rotate_left
 ·have h100: ¬(W.length:Int)=10:=h10
  intro β w' hs
  exact (hs.keepB (List.nil_sublist _)).fin [] (.inr ⟨fun c h=>h100 (by rw [(hU c h).1.n];rfl),⟨⟨ByteArray.empty,ByteArray.empty,⟨none,0,0,0,none,0,0,none,0,0,none,0,0⟩,0,none,0,0,false⟩,rfl⟩,rfl⟩)
 have h100:(W.length:Int)=10:=h10
 obtain ⟨w0,w1,w2,w3,w4,w5,w6,w7,w8,w9,rfl⟩:=z_t0 (show W.length=10 by omega)
 refine ⟨_,0,rfl,rfl,by show 0<10;decide,?_⟩
 refine ⟨.string (mkS w0),fun β w' hs=>Rd.cell1 (z_am (hs.get 0 rfl)) rfl,?_⟩
 refine BIf.not (BIf.dec (fun h0=>?_) (fun h0=>?_))
 rotate_left
 ·have h00: ¬mkS w0=mkS userW:=h0
  intro β w' hs
  exact (hs.keepB (List.nil_sublist _)).fin [] (.inr ⟨fun c h=>h00 (congrArg mkS (hU c h).2.1),⟨⟨ByteArray.empty,ByteArray.empty,⟨none,0,0,0,none,0,0,none,0,0,none,0,0⟩,0,none,0,0,false⟩,rfl⟩,rfl⟩)
 have h00:w0=userW:=mkS1 h0
 refine z_an g ?_
 refine ⟨_,1,rfl,rfl,by show 1<10;decide,?_⟩
 refine ⟨.string (mkS w1),fun β w' hs=>Rd.cell1 (z_am (hs.get 0 rfl)) rfl,?_⟩
 refine z_ac [] (fun β w' hs=>z_oj w' w1 (Nat.le_trans (hle w1 (by simp)) (by decide))) ?_
 rintro v Fs ⟨A1,nm,c1,e,rfl,hnm,hc1,rfl⟩
 refine z_an g ?_
 refine ⟨_,2,rfl,rfl,by show 2<10;decide,?_⟩
 refine ⟨.string (mkS w2),fun β w' hs=>Rd.cell1 (z_am (hs.get 1 rfl)) rfl,?_⟩
 refine z_ac [] (fun β w' hs=>z_kY w' (mkS w2) powF rfl (Nat.le_trans (hle w2 (by simp)) (by decide)) (fun w u h1 h2=>z_du w u h2 (z_fb h1)) (hs.mem.take (js:=[3,4,5]) rfl)) ?_
 rintro v Fs ⟨⟨gn,ob,rfl,hgn⟩,rfl⟩
 refine z_an g ?_
 refine ⟨_,4,rfl,rfl,by show 4<10;decide,?_⟩
 refine ⟨.string (mkS w4),fun β w' hs=>Rd.cell1 (z_am (hs.get 1 rfl)) rfl,?_⟩
 refine z_ac [] (fun β w' hs=>z_kY w' (mkS w4) powF rfl (Nat.le_trans (hle w4 (by simp)) (by decide)) (fun w u h1 h2=>z_du w u h2 (z_fb h1)) (hs.mem.take (js:=[3,4,5]) rfl)) ?_
 rintro v Fs ⟨⟨rn,ib,rfl,hrn⟩,rfl⟩
 obtain ⟨Gd,hGd⟩: ∃P:Prop,P=(e=0/\ob=true/\ib=true/\rn<=64/\(w3=onW\/w3=offW)):=⟨_,rfl⟩
 refine z_b3 (ι:=Bool) g (fun G=>G=true↔Gd) 1 (fun G=>[(0,.c (.v (.string (mkS t)))),(4,.c (.p 0 0)),(5,.c (.v (.bool false))),(6,.c (.v (.slice (some ⟨b,0,none⟩) 10 10))),(7,.c (.v (.slice A1 nm.length c1))),(9,.c (.v (.int .u64 (gn:Int)))),(11,.c (.v (.int .u64 (rn:Int)))),(13,.c (.v (.bool G)))])
  (fun _=>[⟨0,z_ao,ti100.zero.map SL.v⟩]) (fun _=>[browF z_ab A1 nm c1,prowF (some ⟨b,0,none⟩) [w0,w1,w2,w3,w4,w5,w6,w7,w8,w9] 10,mlF,errF 5,errF 6,powF]) ?_ ?_
 rotate_left
 ·have no: ¬Gd->(false=true↔Gd):=fun h=>⟨fun q=>(by cases q),fun q=>absurd q h⟩
  have ent: ∀ {P:Prop},P->P:=fun h=>h
  refine BIf.dec (fun he=>?_) (fun he=>?_)
  rotate_left
  ·have he0: ¬e=0:=he
   exact EntX.of false (no fun q=>he0 (by rw [hGd] at q;exact q.1)) (Ent.mk' ⟨rfl,rfl,rfl,rfl,rfl,rfl,rfl,rfl,trivial⟩ rfl (fun β w' hs=>hs))
  have he0:e=0:=he
  cases ob with
  | false=>exact EntX.of false (no fun q=>by rw [hGd] at q;cases q.2.1) (Ent.mk' ⟨rfl,rfl,rfl,rfl,rfl,rfl,rfl,rfl,trivial⟩ rfl (fun β w' hs=>hs))
  | true=>
  cases ib with
  | false=>exact EntX.of false (no fun q=>by rw [hGd] at q;cases q.2.2.1) (Ent.mk' ⟨rfl,rfl,rfl,rfl,rfl,rfl,rfl,rfl,trivial⟩ rfl (fun β w' hs=>hs))
  | true=>
  refine BIf.dec (fun hr=>?_) (fun hr=>?_)
  rotate_left
  ·have hr0: ¬(rn:Int)<=64:=hr
   exact EntX.of false (no fun q=>by rw [hGd] at q;have:=q.2.2.2.1;omega) (Ent.mk' ⟨rfl,rfl,rfl,rfl,rfl,rfl,rfl,rfl,trivial⟩ rfl (fun β w' hs=>hs))
  have hr0:(rn:Int)<=64:=hr
  refine ⟨_,3,rfl,rfl,by show 3<10;decide,?_⟩
  refine ⟨.string (mkS w3),fun β w' hs=>Rd.cell1 (z_am (hs.get 1 rfl)) rfl,?_⟩
  refine BIf.dec (fun h3=>?_) (fun h3=>?_)
  ·have h30:w3=onW:=mkS1 h3
   exact EntX.of true ⟨fun _=>by rw [hGd];exact ⟨he0,rfl,rfl,by omega,.inl h30⟩,fun _=>rfl⟩ (Ent.mk' ⟨rfl,rfl,rfl,rfl,rfl,rfl,rfl,rfl,trivial⟩ rfl (fun β w' hs=>hs))
  have h30: ¬mkS w3=mkS onW:=h3
  refine ⟨_,3,rfl,rfl,by show 3<10;decide,?_⟩
  refine ⟨.string (mkS w3),fun β w' hs=>Rd.cell1 (z_am (hs.get 1 rfl)) rfl,?_⟩
  refine EntX.of (decide (mkS w3=mkS offW)) ⟨fun q=>?_,fun q=>?_⟩ (Ent.mk' ⟨rfl,rfl,rfl,rfl,rfl,rfl,rfl,rfl,trivial⟩ rfl (fun β w' hs=>hs))
  ·rw [hGd]
   exact ⟨he0,rfl,rfl,by omega,.inr (mkS1 (of_decide_eq_true q))⟩
  ·rw [hGd] at q
   rcases q.2.2.2.2 with k | k
   ·exact absurd (congrArg mkS k) h30
   ·exact decide_eq_true (congrArg mkS k)
 intro G hG
 refine z_an g ?_
 have hcell: ∀ {β:Va} {n:Nat} {H:List Bk} {w':World},Sat (z_gK w (Un [])) β n H [browF z_ab A1 nm c1,prowF (some ⟨b,0,none⟩) [w0,w1,w2,w3,w4,w5,w6,w7,w8,w9] 10] w'->Rd 1 (some ⟨b,0,none⟩) 10 ([w0,w1,w2,w3,w4,w5,w6,w7,w8,w9].map fun x=>Value.string (mkS x)) w':=fun hs=>z_am (hs.get 1 rfl)
 refine z_ak g z_nb (by kernel_rfl) [⟨0,z_ao,ti100.zero.map SL.v⟩] [browF z_ab A1 nm c1,prowF (some ⟨b,0,none⟩) [w0,w1,w2,w3,w4,w5,w6,w7,w8,w9] 10] (subPerm [0,1]) ?_
 refine ⟨_,fun β w' hs=>z_am (hs.get 0 rfl),?_⟩
 refine ⟨_,3,rfl,rfl,by omega,?_⟩
 refine ⟨.string (mkS w3),fun β w' hs=>Rd.cell1 (hcell hs) rfl,?_⟩
 refine ⟨Sub.of (List.sublist_cons_self _ _) (((List.nil_sublist _).cons_cons _).cons_cons _),?_⟩
 refine ⟨Sub.of (List.sublist_cons_self _ _) (((List.nil_sublist _).cons_cons _).cons_cons _),?_⟩
 obtain ⟨ri,hri⟩: ∃ri,IntKind.i64.wrap (rn:Int)=ri:=⟨_,rfl⟩
 refine z_an g ?_
 refine ⟨ri,hri,?_⟩
 refine z_an g ?_
 refine ⟨_,5,rfl,rfl,by omega,?_⟩
 refine ⟨.string (mkS w5),fun β w' hs=>Rd.cell1 (z_am (hs.get 1 rfl)) rfl,?_⟩
 refine z_ac [] (fun β w' hs=>z_iP w' w5 G (Nat.le_trans (hle w5 (by simp)) (by decide))) ?_
 rintro v Fs ⟨A5,x5,c5,b5,rfl,hc5,h5,rfl⟩
 refine z_an g ?_
 refine ⟨_,6,rfl,rfl,by omega,?_⟩
 refine ⟨.string (mkS w6),fun β w' hs=>Rd.cell1 (z_am (hs.get 2 rfl)) rfl,?_⟩
 refine z_ac [] (fun β w' hs=>z_iP w' w6 b5 (Nat.le_trans (hle w6 (by simp)) (by decide))) ?_
 rintro v Fs ⟨A6,x6,c6,b6,rfl,hc6,h6,rfl⟩
 refine z_an g ?_
 refine ⟨_,7,rfl,rfl,by omega,?_⟩
 refine ⟨.string (mkS w7),fun β w' hs=>Rd.cell1 (z_am (hs.get 3 rfl)) rfl,?_⟩
 refine z_ac [] (fun β w' hs=>z_iP w' w7 b6 (Nat.le_trans (hle w7 (by simp)) (by decide))) ?_
 rintro v Fs ⟨A7,x7,c7,b7,rfl,hc7,h7,rfl⟩
 refine z_b3 (ι:=D8) g (fun i=>i.x.length<=i.c/\((i.b=true/\b7=true/\decP w8=some i.x)\/(i.b=false/\(b7=false\/decP w8=none)))) 2 (fun i=>[(4,.c (.p 0 0)),(5,.c (.v (.bool false))),(6,.c (.v (.slice (some ⟨b,0,none⟩) 10 10))),(13,.c (.v (.bool i.b))),(14,.c (.p 1 0))])
  (fun i=>[⟨1,z_ao,CrdV.ss ⟨mkS t,mkS nm,⟨A5,x5.length,c5,ri,A6,x6.length,c6,A7,x7.length,c7,i.A,i.x.length,i.c⟩,gn,none,0,0,decide (mkS w3=mkS offW)⟩⟩,⟨0,z_ao,ti100.zero.map SL.v⟩]) (fun i=>[browF z_ab i.A i.x i.c,browF z_ab A7 x7 c7,browF z_ab A6 x6 c6,browF z_ab A5 x5 c5,prowF (some ⟨b,0,none⟩) [w0,w1,w2,w3,w4,w5,w6,w7,w8,w9] 10,mlF]) ?_ ?_
 rotate_left
 ·refine ⟨_,8,rfl,rfl,by omega,?_⟩
  refine ⟨.string (mkS w8),fun β w' hs=>Rd.cell1 (z_am (hs.get 4 rfl)) rfl,?_⟩
  refine z_ac [] (fun β w' hs=>z_iP w' w8 b7 (Nat.le_trans (hle w8 (by simp)) (by decide))) ?_
  rintro v Fs ⟨A8,x8,c8,b8,rfl,hc8,h8,rfl⟩
  exact EntX.of ⟨A8,x8,c8,b8⟩ ⟨hc8,h8⟩ (Ent.mk' ⟨rfl,rfl,rfl,rfl,rfl,trivial⟩ rfl (fun β w' hs=>Eq.mp (by kernel_rfl) (hs.perm [0,1,2,3,5,6])))
 rintro ⟨A8,x8,c8,b8⟩ ⟨hc8,h8⟩
 simp only at hc8 h8
 have hgo:b8=true->Gd/\decP w5=some x5/\decP w6=some x6/\decP w7=some x7/\decP w8=some x8:=by
  intro hb
  rcases h8 with ⟨_,q7,q8⟩ | ⟨q,_⟩
  ·rcases h7 with ⟨_,q6,k7⟩ | ⟨q,_⟩
   ·rcases h6 with ⟨_,q5,k6⟩ | ⟨q,_⟩
    ·rcases h5 with ⟨_,q4,k5⟩ | ⟨q,_⟩
     ·exact ⟨hG.1 q4,k5,k6,k7,q8⟩
     ·rw [q5] at q;cases q
    ·rw [q6] at q;cases q
   ·rw [q7] at q;cases q
  ·rw [hb] at q;cases q
 have hno:b8=false-> ∀c,¬UsrP t l c:=by
  intro hb c hc
  obtain ⟨hp,_,k3⟩:=hU c hc
  have e5:decP w5=some c.sec.salt:=hp.a
  have e6:decP w6=some c.sec.stored:=hp.b
  have e7:decP w7=some c.sec.server:=hp.s
  have e8:decP w8=some c.sec.ha1:=hp.h
  obtain ⟨r,i1,i2,_⟩:=hp.i
  have i1':numOk (mkS w4) r:=i1
  have hgd:Gd:=by
   rw [hGd]
   refine ⟨?_,?_,?_,?_,k3⟩
   ·rcases hnm with ⟨q,_⟩ | ⟨_,q⟩
    ·exact q
    ·have:=hp.u
     rw [show unhexA w1=some _ from this] at q
     cases q
   ·rcases hgn with ⟨q,_⟩ | ⟨_,q⟩
    ·exact q
    ·exact absurd hp.g (q _)
   ·rcases hrn with ⟨q,_⟩ | ⟨_,q⟩
    ·exact q
    ·exact absurd i1' (q _)
   ·rcases hrn with ⟨_,q⟩ | ⟨_,q⟩
    ·have:=z_nz _ _ _ q i1'
     omega
    ·exact absurd i1' (q _)
  have t4:G=true:=hG.2 hgd
  have t5:b5=true:=by
   rcases h5 with ⟨q,_⟩ | ⟨_,q | q⟩
   ·exact q
   ·rw [t4] at q;cases q
   ·rw [e5] at q;cases q
  have t6:b6=true:=by
   rcases h6 with ⟨q,_⟩ | ⟨_,q | q⟩
   ·exact q
   ·rw [t5] at q;cases q
   ·rw [e6] at q;cases q
  have t7:b7=true:=by
   rcases h7 with ⟨q,_⟩ | ⟨_,q | q⟩
   ·exact q
   ·rw [t6] at q;cases q
   ·rw [e7] at q;cases q
  rcases h8 with ⟨q,_⟩ | ⟨_,q | q⟩
  ·rw [hb] at q;cases q
  ·rw [t7] at q;cases q
  ·rw [e8] at q;cases q
 have hyes:b8=true-> ∀rA rc roles,roles=rolS w9->UsrP t l (Crd.a ⟨0,mkS t,mkS nm,⟨⟨A5,c5,x5,hc5⟩,ri,⟨A6,c6,x6,hc6⟩,⟨A7,c7,x7,hc7⟩,⟨A8,c8,x8,hc8⟩⟩,gn,rA,rc,roles,decide (mkS w3=mkS offW)⟩):=by
  intro hb rA rc roles hr
  obtain ⟨gd,k5,k6,k7,k8⟩:=hgo hb
  rw [hGd] at gd
  obtain ⟨g1,g2,g3,g4,g5⟩:=gd
  unfold UsrP
  rw [hW]
  refine ⟨⟨rfl,rfl,?_,?_,⟨rn,?_,g4,?_⟩,k5,k6,k7,k8,hr,?_⟩,h00,g5⟩
  ·rcases hnm with ⟨_,q⟩ | ⟨q,_⟩
   ·show unhexA w1=some (mkS nm).data.toList
    rw [mkSo]
    exact q
   ·exact absurd g1 q
  ·rcases hgn with ⟨_,q⟩ | ⟨q,_⟩
   ·exact q
   ·rw [g2] at q;cases q
  ·rcases hrn with ⟨_,q⟩ | ⟨q,_⟩
   ·exact q
   ·rw [g3] at q;cases q
  ·show ri=(rn:Int)
   rw [<-hri,wrap_i64 (by omega) (by omega)]
  ·show decide (mkS w3=mkS offW)=decide (w3=offW)
   exact decide_eq_decide.2 ⟨fun q=>mkS1 q,fun q=>congrArg mkS q⟩
 refine z_an g ?_
 refine ⟨_,9,rfl,rfl,by omega,?_⟩
 refine ⟨.string (mkS w9),fun β w' hs=>Rd.cell1 (z_am (hs.get 4 rfl)) rfl,?_⟩
 refine BIf.not (BIf.dec (fun h9=>?_) (fun h9=>?_))
 ·have h90:w9=[45]:=mkS1 h9
  refine z_an g ?_
  refine z_fI g ?_
  intro β w' hs
  cases b8 with
  | false=>exact (hs.keepB (List.nil_sublist _)).fin [] (.inr ⟨hno rfl,⟨⟨mkS t,mkS nm,⟨A5,x5.length,c5,ri,A6,x6.length,c6,A7,x7.length,c7,A8,x8.length,c8⟩,gn,none,0,0,decide (mkS w3=mkS offW)⟩,rfl⟩,rfl⟩)
  | true=>
   have hs2:=((hs.keepB (List.nil_sublist _)).nilRow z_ah 1).bsCs (c:=⟨0,mkS t,mkS nm,⟨⟨A5,c5,x5,hc5⟩,ri,⟨A6,c6,x6,hc6⟩,⟨A7,c7,x7,hc7⟩,⟨A8,c8,x8,hc8⟩⟩,gn,none,0,[],decide (mkS w3=mkS offW)⟩) [0,1,2,3,4] rfl
   exact hs2.fin [0] (.inl ⟨_,hyes rfl none 0 [] (by rw [h90];rfl),rfl,rfl⟩)
 have h90: ¬w9=[45]:=fun e=>h9 (congrArg mkS e)
 refine ⟨_,9,rfl,rfl,by omega,?_⟩
 refine ⟨.string (mkS w9),fun β w' hs=>Rd.cell1 (z_am (hs.get 4 rfl)) rfl,?_⟩
 refine z_ac [] (fun β w' hs=>z_rQ w' w9 44 (Nat.le_trans (hle w9 (by simp)) (by decide)) (hs.get 5 rfl)) ?_
 rintro v Fs ⟨b9,rfl,rfl⟩
 obtain ⟨L9,hL9⟩: ∃L9:List ByteArray,(splL 44 w9).map mkS=L9:=⟨_,rfl⟩
 have e9:prowF (some ⟨b9,0,none⟩) (splL 44 w9) (splL 44 w9).length=srowF (some ⟨b9,0,none⟩) L9 L9.length:=by
  show rowF z_ah 1 (.slice _ (splL 44 w9).length _) _ _=rowF z_ah 1 (.slice _ L9.length _) _ _
  rw [<-hL9,List.length_map]
  unfold strs
  rw [List.map_map]
  rfl
 have e10:(splL 44 w9).length=L9.length:=by rw [<-hL9,List.length_map]
 rw [e9,e10]
 have hr9:L9=rolS w9:=by unfold rolS;rw [if_neg h90,hL9]
 refine z_an g ?_
 refine z_fI g ?_
 intro β w' hs
 cases b8 with
 | false=>exact (hs.keepB (List.nil_sublist _)).fin [] (.inr ⟨hno rfl,⟨⟨mkS t,mkS nm,⟨A5,x5.length,c5,ri,A6,x6.length,c6,A7,x7.length,c7,A8,x8.length,c8⟩,gn,some ⟨b9,0,none⟩,L9.length,L9.length,decide (mkS w3=mkS offW)⟩,rfl⟩,rfl⟩)
 | true=>
  have hs2:=(hs.keepB (List.nil_sublist _)).bsCs (c:=⟨0,mkS t,mkS nm,⟨⟨A5,c5,x5,hc5⟩,ri,⟨A6,c6,x6,hc6⟩,⟨A7,c7,x7,hc7⟩,⟨A8,c8,x8,hc8⟩⟩,gn,some ⟨b9,0,none⟩,L9.length,L9,decide (mkS w3=mkS offW)⟩) [0,1,2,3,4] rfl
  exact hs2.fin [0] (.inl ⟨_,hyes rfl (some ⟨b9,0,none⟩) L9.length L9 hr9,rfl,rfl⟩)
theorem z_re: ∀(n:Nat) (vs:List Nat) (l:List UInt8),vs.length<=n->decG vs=some l->l.length<=vs.length
 | n,vs,l,hn,h=>by
  match vs,h with
  | a::b::c::d::r,h=>
   unfold decG at h
   cases hq:decG r with
   | none=>rw [hq] at h;cases h
   | some k=>
    rw [hq] at h
    obtain rfl:=Option.some.inj h
    cases n with
    | zero=>simp at hn
    | succ n=>
     have:=z_re n r k (by simp only [List.length_cons] at hn;omega) hq
     simp only [List.length_cons]
     omega
  | [a,b,c],h=>
   unfold decG at h
   split at h
   ·obtain rfl:=Option.some.inj h;simp
   ·cases h
  | [a,b],h=>
   unfold decG at h
   split at h
   ·obtain rfl:=Option.some.inj h;simp
   ·cases h
  | [],h=>
   obtain rfl:=Option.some.inj h
   exact Nat.le_refl _
theorem z_sG (s:List UInt8):(unpad s).length<=s.length:=by
 unfold unpad
 split
 ·split
  ·simp only [List.length_dropLast];omega
  ·simp only [List.length_dropLast];omega
 ·exact Nat.le_refl _
theorem z_mU {s l:List UInt8} (h:decP s=some l):l.length<=s.length:=by
 unfold decP at h
 split at h
 ·cases h
 ·split at h
  ·cases h
  ·unfold decS at h
   cases hq:valsA false (unpad s) with
   | none=>rw [hq] at h;cases h
   | some vs=>
    rw [hq] at h
    have h1:=z_re _ vs l (Nat.le_refl _) h
    have h2:=(z_dD hq).1
    have h3:=z_sG s
    omega
theorem z_no: ∀(s l:List UInt8),unhexA s=some l->l.length<=s.length
 | [],l,h=>by
  obtain rfl:=Option.some.inj h
  exact Nat.le_refl _
 | [a],l,h=>by cases h
 | a::b::r,l,h=>by
  unfold unhexA at h
  split at h
  ·rename_i x y k _ _ hk
   obtain rfl:=Option.some.inj h
   have:=z_no r k hk
   simp only [List.length_cons]
   omega
  ·cases h
theorem z_uA {W:List (List UInt8)} {k:Nat} (h:k<W.length):W.getD k []∈W:=by
 rw [List.getD_eq_getElem?_getD,List.getElem?_eq_getElem h]
 exact List.getElem_mem h
theorem z_uW {s:List UInt8}:(rolS s).length<=s.length+1/\ ∀r∈rolS s,r.size<=s.length:=by
 unfold rolS
 split
 ·exact ⟨Nat.zero_le _,fun r h=>by cases h⟩
 ·refine ⟨by rw [List.length_map];exact z_jf 44 s,fun r hr=>?_⟩
  obtain ⟨x,hx,rfl⟩:=List.mem_map.1 hr
  exact z_lK x hx
structure CrSz (c:ACrd):Prop where
 u:c.user.size<=100000
 r: ∀r∈c.roles,r.size<=100000
 n:c.roles.length<=100000
 z:CSz c
theorem Par.sz {num:List UInt8->Nat->Prop} {t:ByteArray} {l:List UInt8} {c:ACrd} (h:Par num t (splL 32 l) c) (hl:l.length<=99999):CrSz c:=by
 have hw: ∀k,k<10->((splL 32 l).getD k []).length<=99999:=fun k hk=>Nat.le_trans (z_lK _ (z_uA (by rw [h.n];exact hk))) hl
 have h1:=z_no _ _ h.u
 have q1:=hw 1 (by decide)
 have q5:=hw 5 (by decide)
 have q6:=hw 6 (by decide)
 have q7:=hw 7 (by decide)
 have q8:=hw 8 (by decide)
 have q9:=hw 9 (by decide)
 have e5:=z_mU h.a
 have e6:=z_mU h.b
 have e7:=z_mU h.s
 have e8:=z_mU h.h
 obtain ⟨r1,r2⟩:=z_uW (s:=(splL 32 l).getD 9 [])
 refine ⟨?_,?_,?_,⟨⟨by omega,by omega,by omega,by omega⟩,?_⟩⟩
 ·show c.user.data.toList.length<=_
  omega
 ·rw [h.r]
  intro r hr
  have:=r2 r hr
  omega
 ·rw [h.r];omega
 ·rw [h.r];omega
theorem z_tR {s x:List UInt8} (h:x∈lnL s):x.length<=s.length:=by
 unfold lnL at h
 split at h
 ·exact z_lK x ((List.dropLast_sublist _).subset h)
 ·exact z_lK x h
theorem z_r4 (d:UInt8): ∀s:List UInt8,(hdB d s).length<=s.length
 | []=>Nat.le_refl _
 | c::r=>by
  have:=z_r4 d r
  rw [z_kA]
  split
  ·simp only [List.length_cons];omega
  ·simp only [List.length_cons];omega
structure FI where
 S:Sto
 f:FS
structure FIok (S:Sto) (body:List UInt8) (pre:List (List UInt8)) (i:FI):Prop where
 run:Run StepP 0 pre ⟨S.a,[],false⟩ i.f
 a:i.S.a=i.f.X
 b:i.S.b=S.b
 t:i.f.t.length<=32
 pre:pre=(lnL body).take pre.length
def FillOut (S:Sto) (body:List UInt8) (v:Value) (Fs:List Fact):Prop:=
 (v= .bool true/\ ∃S' x,Run StepP 0 (lnL body) ⟨S.a,[],false⟩ x/\S'.a=x.X/\S'.b=S.b/\Fs=[stoF S'])\/
 (v= .bool false/\(∀x,¬Run StepP 0 (lnL body) ⟨S.a,[],false⟩ x)/\ ∃S',Fs=[stoF S'])
abbrev numFs:List Fact:=[mlF,errF 5,errF 6,powF,namF]
set_option maxHeartbeats 2000000 in
theorem z_vO (w:World) (S:Sto) (body:List UInt8) (hb:body.length<=99999) (hm:Mem w (stoF S::numFs)):Con Tryz.prog z_hZ #[ptr S.b,.string (mkS body)] w [stoF S] (FillOut S body):=by
 have g:=z_hz w (Un [stoF S])
 refine z_d2 (cx:=z_gL w (Un [stoF S])) g z_lk [.c (.v (ptr S.b)),.c (.v (.string (mkS body)))] numFs hm ?_
 refine z_ac [] (fun β w' hs=>z_kG w' (mkS body)) ?_
 rintro v Fs ⟨bx,rfl,rfl⟩
 refine z_aB (α:=List UInt8) (ι:=FI) (κ:=FI) g rfl (cv:=[.pointer (some ⟨bx,0,none⟩)]) rfl (by kernel_rfl) 4 (Nat.le_refl 4) (fun pre i=>FIok S body pre i) (fun i=>[⟨3,4,[.v (.bool i.f.s)]⟩,⟨2,9,[.v (.string (mkS i.f.t))]⟩,⟨1,4,[.v (.bool false)]⟩,⟨0,25,[.v (ptr S.b)]⟩]) (fun i=>[stoF i.S]) (fun _=>⟨rfl,trivial⟩)
  (fun e pre j=>e= .ret/\ ∀x,¬Run StepP 0 (lnL body) ⟨S.a,[],false⟩ x) (fun i=>[⟨1,4,[.v (.bool false)]⟩]) (fun i=>[stoF i.S]) (fun _=>⟨rfl,trivial⟩) [bkF bx z_ah [.string (mkS body)]] [mlF] numFs ⟨rfl,trivial⟩ (fun g h=>by
   simp only [List.mem_cons,List.not_mem_nil,or_false] at h
   rcases h with rfl | rfl | rfl | rfl | rfl<;>rfl) ⟨S,⟨S.a,[],false⟩⟩ ⟨rfl,rfl,rfl,Nat.zero_le _,rfl⟩ (fun β w hs=>⟨β,Agr.refl _ _,?_⟩) (insLn (lnL body)) (fun xs Fs'=>xs=lnL body/\Fs'=[]) (fun pre Fs'=>Fs'=[]) (fun l w f0 R J Jx h1 h2 h3 h4 h5=>(z_pk l w bx body (by omega) f0 R J Jx h1 h2 h3 h4 h5).mono fun _ _ h=>h) ?_ ?_ ?_
 ·exact (hs.sub 2 rfl rfl mlF rfl (hs.get 2 rfl) (fun _ h=>h)).perm [1,0,2,3,4,5,6,7]
 ·rintro ⟨S1,⟨X1,t1,s1⟩⟩ pre x args X W S0 l0 bs pn pn' hbs ⟨hrun,ha,hib,ht,hpre⟩ ⟨rfl,rfl,hx⟩
  simp only at hrun ha hib ht hpre
  have hL:=z_mQ hpre hx
  refine ⟨_,rfl,?_⟩
  have hxl:x.length<=99999:=Nat.le_trans (z_tR (List.mem_of_getElem? hx)) hb
  have hstop:(∀m,¬StepP pre.length x ⟨X1,t1,s1⟩ m)-> ∀y,¬Run StepP 0 (lnL body) ⟨S.a,[],false⟩ y:=fun hn y=>by
   rw [hL]
   exact Run.no StepP.one hrun hn y
  have hgo: ∀m:FS,StepP pre.length x ⟨X1,t1,s1⟩ m->m.t.length<=32-> ∀S2:Sto,S2.a=m.X->S2.b=S.b->FIok S body (pre++[x]) ⟨S2,m⟩:=fun m hs2 h32 S2 e1 e2=>⟨hrun.snoc hs2,e1,e2,h32,z_mK hpre hx⟩
  refine z_af (v:= .tuple #[.string (mkS (hdA 32 x)),.string (mkS (hdB 32 x)),.bool (decide (32∈x))]) (fun β w' hs=>z_rg w' x 32 (by omega) (hs.get 2 rfl)) ?_
  refine BIf.dec (fun h1=>?_) (fun h1=>?_)
  ·have h10:((pre.length+1:Nat):Int)=1:=h1
   have hp0:pre.length=0:=by omega
   refine z_ac [] (fun β w' hs=>z_kY w' (mkS (hdB 32 x)) powF rfl (by have:=z_r4 32 x;show (hdB 32 x).length<=_;omega) (fun w u h1 h2=>z_du w u h2 (z_fb h1)) (hs.mem.take (js:=[3,4,5]) rfl)) ?_
   rintro v Fs ⟨⟨n,nb,rfl,hn⟩,rfl⟩
   refine BIf.not (BIf.dec (fun h3=>?_) (fun h3=>?_))
   rotate_left
   ·have h30: ¬hdA 32 x=lastW:=fun e=>h3 (congrArg mkS e)
    refine ⟨⟨S1,⟨X1,t1,s1⟩⟩,⟨rfl,hstop fun m q=>?_⟩,Ent.mk' trivial rfl (fun β w' hs=>((hs.keepB (((List.nil_sublist _).cons_cons _).cons _ |>.cons _)).perm [1]))⟩
    rcases q with ⟨_,q,_⟩ | ⟨q,_⟩ | ⟨q,_⟩
    ·exact h30 q
    ·exact q hp0
    ·exact q hp0
   have h30:hdA 32 x=lastW:=mkS1 h3
   cases nb with
   | false=>
    refine ⟨⟨S1,⟨X1,t1,s1⟩⟩,⟨rfl,hstop fun m q=>?_⟩,Ent.mk' trivial rfl (fun β w' hs=>((hs.keepB (((List.nil_sublist _).cons_cons _).cons _ |>.cons _)).perm [1]))⟩
    rcases q with ⟨_,_,⟨n2,q,_⟩,_⟩ | ⟨q,_⟩ | ⟨q,_⟩
    ·rcases hn with ⟨k,_⟩ | ⟨_,k⟩
     ·cases k
     ·exact k n2 q
    ·exact q hp0
    ·exact q hp0
   | true=>
   have hn1:numOk (mkS (hdB 32 x)) n:=by
    rcases hn with ⟨_,k⟩ | ⟨k,_⟩
    ·exact k
    ·cases k
   obtain ⟨rc,rX,hr⟩: ∃rc rX,raiseA X1 n=(rc,rX):=⟨_,_,rfl⟩
   refine z_ac [1] (R:=stoOut S1 (rc,rX)) (fun β w' hs=>by
    have h:=z_rU w' S1 n (hs.mem.take (js:=[1]) rfl)
    rw [hib,ha,hr] at h
    exact h) ?_
   rintro v Fs ⟨S2,rfl,ha2,hb2,rfl⟩
   simp only at ha2
   refine BIf.not (BIf.dec (fun h4=>?_) (fun h4=>?_))
   ·have h40:rc=0:=h4
    subst h40
    refine ⟨⟨S2,⟨rX,t1,s1⟩⟩,hgo ⟨rX,t1,s1⟩ (.inl ⟨hp0,h30,⟨n,hn1,hr⟩,rfl,rfl⟩) ht S2 ha2 (hb2.trans hib),Ent.mk' trivial rfl (fun β w' hs=>hs.perm [0])⟩
   ·have h40: ¬rc=0:=h4
    refine ⟨⟨S2,⟨X1,t1,s1⟩⟩,⟨rfl,hstop fun m q=>?_⟩,Ent.mk' trivial rfl (fun β w' hs=>((hs.keepB (((List.nil_sublist _).cons_cons _).cons _ |>.cons _)).perm [0]))⟩
    rcases q with ⟨_,_,⟨n2,q,q2⟩,_⟩ | ⟨q,_⟩ | ⟨q,_⟩
    ·obtain rfl:=z_nz _ _ _ q hn1
     have q3:raiseA X1 n2=(0,m.X):=q2
     rw [hr] at q3
     injection q3 with q4 _
     exact h40 q4
    ·exact q hp0
    ·exact q hp0
  have h10: ¬((pre.length+1:Nat):Int)=1:=h1
  refine BIf.dec (fun h2=>?_) (fun h2=>?_)
  ·have h20:hdA 32 x=tenW:=mkS1 h2
   obtain ⟨rc,rX,hr⟩: ∃rc rX,addT X1 (mkS (hdB 32 x))=(rc,rX):=⟨_,_,rfl⟩
   have hdl:=z_r4 32 x
   refine z_ac [1] (R:=stoOut S1 (rc,rX)) (fun β w' hs=>by
    have h:=z_ow w' S1 (mkS (hdB 32 x)) (by show (hdB 32 x).length<=_;omega) (hs.mem.take (js:=[1]) rfl)
    rw [hib,ha,hr] at h
    exact h) ?_
   rintro v Fs ⟨S2,rfl,ha2,hb2,rfl⟩
   simp only at ha2
   refine BIf.not (BIf.dec (fun h4=>?_) (fun h4=>?_))
   ·have h40:rc=0:=h4
    subst h40
    have hpl:=z_ri hr
    rw [mkSo] at hpl
    refine ⟨⟨S2,⟨rX,hdB 32 x,true⟩⟩,hgo ⟨rX,hdB 32 x,true⟩ (.inr (.inl ⟨by omega,h20,hr,rfl,rfl⟩)) (by
     unfold plainF at hpl
     simp only [Bool.and_eq_true,decide_eq_true_eq] at hpl
     exact hpl.2.2) S2 ha2 (hb2.trans hib),Ent.mk' trivial rfl (fun β w' hs=>hs.perm [0])⟩
   ·have h40: ¬rc=0:=h4
    refine ⟨⟨S2,⟨X1,t1,s1⟩⟩,⟨rfl,hstop fun m q=>?_⟩,Ent.mk' trivial rfl (fun β w' hs=>((hs.keepB (((List.nil_sublist _).cons_cons _).cons _ |>.cons _)).perm [0]))⟩
    rcases q with ⟨q,_⟩ | ⟨_,_,q,_⟩ | ⟨_,q,_⟩
    ·exact h10 (by omega)
    ·have q3:addT X1 (mkS (hdB 32 x))=(0,m.X):=q
     rw [hr] at q3
     injection q3 with q4 _
     exact h40 q4
    ·exact q h20
  have h20: ¬hdA 32 x=tenW:=fun e=>h2 (congrArg mkS e)
  refine z_ac [] (fun β w' hs=>z_vz w' t1 x (by omega) (hs.mem.take (js:=[2,3,4,5]) rfl)) ?_
  rintro v Fs (⟨c,hu,rfl,rfl⟩ | ⟨hu,⟨xv,rfl⟩,rfl⟩)
  rotate_left
  ·refine ⟨⟨S1,⟨X1,t1,s1⟩⟩,⟨rfl,hstop fun m q=>?_⟩,Ent.mk' trivial rfl (fun β w' hs=>((hs.keepB (((((List.nil_sublist _).cons_cons _).cons _).cons _).cons _)).perm [1]).lower)⟩
   rcases q with ⟨q,_⟩ | ⟨_,q,_⟩ | ⟨_,_,⟨c,q,_⟩,_⟩
   ·exact h10 (by omega)
   ·exact h20 q
   ·exact hu c q
  cases s1 with
  | false=>
   refine ⟨⟨S1,⟨X1,t1,false⟩⟩,⟨rfl,hstop fun m q=>?_⟩,Ent.mk' trivial rfl (fun β w' hs=>((hs.keepB (((((List.nil_sublist _).cons_cons _).cons _).cons _).cons _)).perm [2]).lower)⟩
   rcases q with ⟨q,_⟩ | ⟨_,q,_⟩ | ⟨_,_,_,q,_⟩
   ·exact h10 (by omega)
   ·exact h20 q
   ·cases q
  | true=>
  obtain ⟨rc,rX,hr⟩: ∃rc rX,loadA X1 c.a=(rc,rX):=⟨_,_,rfl⟩
  have hcz:=Par.sz hu.1 hxl
  have hct:c.tenant=mkS t1:=hu.1.ten
  refine z_ac [2] (R:=stoOut S1 (rc,rX)) (fun β w' hs=>by
   have hm2:=((hs.asRo 0 rfl).ofRo 0 rfl (crRd c) rfl (z_qI (hs.get 0 rfl) (c:=c) (by simp)) (fun k hk=>⟨crRd c,by simp,hk⟩)).mem.take (js:=[3,0,8]) rfl
   have h:=z_vQ w' S1 c (by rw [hct];show t1.length<=_;omega) hcz.u hcz.r hcz.n hcz.z hm2
   rw [hib,ha,hr] at h
   exact h) ?_
  rintro v Fs ⟨S2,rfl,ha2,hb2,rfl⟩
  simp only at ha2
  refine BIf.not (BIf.dec (fun h4=>?_) (fun h4=>?_))
  ·have h40:rc=0:=h4
   subst h40
   exact ⟨⟨S2,⟨rX,t1,true⟩⟩,hgo ⟨rX,t1,true⟩ (.inr (.inr ⟨by omega,h20,⟨c.a,hu,hr⟩,rfl,rfl,rfl⟩)) ht S2 ha2 (hb2.trans hib),Ent.mk' trivial rfl (fun β w' hs=>((hs.keepB (List.sublist_cons_self _ _)).perm [0]).lower)⟩
  ·have h40: ¬rc=0:=h4
   refine ⟨⟨S2,⟨X1,t1,true⟩⟩,⟨rfl,hstop fun m q=>?_⟩,Ent.mk' trivial rfl (fun β w' hs=>((hs.keepB (((((List.nil_sublist _).cons_cons _).cons _).cons _).cons _)).perm [0]).lower)⟩
   rcases q with ⟨q,_⟩ | ⟨_,q,_⟩ | ⟨_,_,⟨d,q,q2⟩,_⟩
   ·exact h10 (by omega)
   ·exact h20 q
   ·obtain rfl:=Par.one z_nz q.1 hu.1
    have q3:loadA X1 c.a=(0,m.X):=q2
    rw [hr] at q3
    injection q3 with q4 _
    exact h40 q4
 ·rintro xs ⟨S1,f1⟩ Fs ⟨hrun,ha,hib,ht,hpre⟩ ⟨rfl,rfl⟩
  intro β w' hs
  exact (hs.keepB (List.nil_sublist _)).fin [0] (.inl ⟨rfl,S1,f1,hrun,ha,hib,rfl⟩)
 ·rintro e pre ⟨S1,f1⟩ Fs ⟨rfl,hno⟩ rfl
  intro β w' hs
  exact (hs.keepB (List.nil_sublist _)).fin [0] (.inr ⟨rfl,hno,S1,rfl⟩)
theorem z_vF:lnL d0=[[108,97,115,116,32,48]]:=by decide
theorem z_uF (w:World) (S:Sto) (hS:S.ts=[]) (hS0:S.last=0) (hm:Mem w [stoF S,mlF]):Con Tryz.prog z_hZ #[ptr S.b,.string (mkS d0)] w [stoF S] (fun v Fs=>v= .bool true/\ ∃S',S'.b=S.b/\S'.ts=[]/\S'.last=0/\Fs=[stoF S']):=by
 have g:=z_hz w (Un [stoF S])
 refine z_d2 (cx:=z_gL w (Un [stoF S])) g z_lk [.c (.v (ptr S.b)),.c (.v (.string (mkS d0)))] [mlF] hm ?_
 refine z_ac [] (fun β w' hs=>z_kG w' (mkS d0)) ?_
 rintro v Fs ⟨bx,rfl,rfl⟩
 refine z_aB (α:=List UInt8) (ι:=Sto) (κ:=Unit) g rfl (cv:=[.pointer (some ⟨bx,0,none⟩)]) rfl (by kernel_rfl) 4 (Nat.le_refl 4) (fun _ i=>i.b=S.b/\i.ts=[]/\i.last=0) (fun _=>[⟨3,4,[.v (.bool false)]⟩,⟨2,9,[.v (.string ⟨#[]⟩)]⟩,⟨1,4,[.v (.bool false)]⟩,⟨0,25,[.v (ptr S.b)]⟩]) (fun i=>[stoF i]) (fun _=>⟨rfl,trivial⟩) (fun _ _ _=>False) (fun _=>[]) (fun _=>[]) (fun _=>trivial) [bkF bx z_ah [.string (mkS d0)]] [mlF] [mlF] ⟨rfl,trivial⟩ (fun g h=>by obtain rfl:=List.mem_singleton.1 h;rfl) S ⟨rfl,hS,hS0⟩ (fun β w hs=>⟨β,Agr.refl _ _,?_⟩) (insLn (lnL d0)) (fun xs Fs'=>xs=lnL d0/\Fs'=[]) (fun pre Fs'=>Fs'=[]) (fun l w f0 R J Jx h1 h2 h3 h4 h5=>(z_pk l w bx d0 (by decide) f0 R J Jx h1 h2 h3 h4 h5).mono fun _ _ h=>h) ?_ ?_ ?_
 ·exact (hs.sub 2 rfl rfl mlF rfl (hs.get 2 rfl) (fun _ h=>h)).perm [1,0,2,3]
 ·rintro i pre x args X W S0 l0 bs pn pn' hbs ⟨hib,hit,hil⟩ ⟨rfl,rfl,hx⟩
  rw [z_vF] at hx
  have hxl:x=[108,97,115,116,32,48]/\pre=[]:=by
   cases pre with
   | nil=>exact ⟨(Option.some.inj hx).symm,rfl⟩
   | cons a t=>cases hx
  obtain ⟨rfl,rfl⟩:=hxl
  refine ⟨_,rfl,?_⟩
  refine z_af (v:= .tuple #[.string (mkS [108,97,115,116]),.string (mkS [48]),.bool true]) (fun β w' hs=>z_rg w' [108,97,115,116,32,48] 32 (by decide) (hs.get 2 rfl)) ?_
  refine z_af (v:= .tuple #[.int .u64 0,.bool true]) (fun β w' hs=>z_qU w') ?_
  refine z_ac [1] (R:=stoOut i (0,i.a)) (fun β w' hs=>by
   have h:=z_rU w' i 0 (hs.mem.take (js:=[1]) rfl)
   have e:raiseA i.a 0=(0,i.a):=by
    have:i.a.last=0:=hil
    unfold raiseA
    rw [if_neg (by decide),this]
    cases hq:i.a with
    | mk a b c=>rw [hq] at this;simp only at this;subst this;rfl
   rw [e,hib] at h
   exact h) ?_
  rintro v Fs ⟨S',rfl,ha,hb,rfl⟩
  have ht:S'.ts=[]:=by
   have:=congrArg ASto.ts ha
   simp [Sto.a,hit] at this
   exact this
  exact ⟨S',⟨hb.trans hib,ht,(congrArg ASto.last ha).trans hil⟩,Ent.mk' trivial rfl (fun β w' hs=>hs.perm [0])⟩
 ·rintro xs i Fs ⟨hib,hit,hil⟩ ⟨rfl,rfl⟩
  intro β w' hs
  exact (hs.keepB (List.nil_sublist _)).fin [0] ⟨rfl,i,hib,hit,hil,rfl⟩
 ·rintro e pre j Fs h
  exact h.elim
theorem z_px (w:World) (s p:ByteArray):Pu Tryz.prog z_h9 #[.string s,.string p] w (.tuple #[.string ⟨(Lib.trimPrefix s.data.toList p.data.toList).toArray⟩,.bool (Lib.hasPrefix s.data.toList p.data.toList)]):=by
 refine pu_of (Calls.mono (Tryz.strings_CutPrefix s p w) ?_)
 rintro e w' ⟨rfl,rfl⟩
 exact ⟨_,rfl,rfl,Chg.refl _ _⟩
theorem z_kB (w:World) (s p:ByteArray) (hs:s.size<=1000000):Pu Tryz.prog z_hP #[.string s,.string p] w (.bool (Lib.hasSuffix s.data.toList p.data.toList)):=by
 refine pu_of (Calls.mono (Tryz.strings_HasSuffix s p w (by omega)) ?_)
 rintro e w' ⟨rfl,rfl⟩
 exact ⟨_,rfl,rfl,Chg.refl _ _⟩
theorem z_nK (w:World) (s p:ByteArray) (hs:s.size<=1000000):Pu Tryz.prog z_g6 #[.string s,.string p] w (.string ⟨(Lib.trimSuffix s.data.toList p.data.toList).toArray⟩):=by
 refine pu_of (Calls.mono (Tryz.strings_TrimSuffix s p w (by omega)) ?_)
 rintro e w' ⟨rfl,rfl⟩
 exact ⟨_,rfl,rfl,Chg.refl _ _⟩
def hx0:List UInt8:=hexB (Sha.sum d0)
theorem z_oU:hx0.length=64:=by rw [hx0,z_eo];rfl
theorem pf1:Lib.hasPrefix (sumL d0) [115,117,109,32]=true:=by
 show Lib.hasPrefix (115::117::109::32::(hexB (Sha.sum d0)++[10])) [115,117,109,32]=true
 simp [Lib.hasPrefix]
theorem pf2:Lib.trimPrefix (sumL d0) [115,117,109,32]=hx0++[10]:=by
 unfold Lib.trimPrefix
 rw [pf1]
 rfl
theorem pf3:Lib.hasSuffix (hx0++[10]) [10]=true:=by simp [Lib.hasSuffix]
theorem pf4:Lib.trimSuffix (hx0++[10]) [10]=hx0:=by
 unfold Lib.trimSuffix
 rw [pf3]
 simp
theorem dig16: ∀k:Nat,k<16->digA (dgs.getD k 0)=some k:=by decide
theorem z_me: ∀l:List UInt8,unhexA (hexB l)=some l
 | []=>rfl
 | x::r=>by
  have ih:=z_me r
  have hx:=x.toNat_lt
  have h1:=dig16 (x.toNat/16) (by omega)
  have h2:=dig16 (x.toNat%16) (by omega)
  show unhexA (dgs.getD (x.toNat/16) 0::dgs.getD (x.toNat%16) 0::hexB r)=_
  unfold unhexA
  rw [h1,h2,ih]
  show some (u8n (x.toNat/16*16+x.toNat%16)::r)=_
  rw [Nat.div_add_mod']
  simp [u8n]
theorem z_to (w:World) (T:List UInt8) (hT:sumL d0=T) (hm:Mem w [oddF 2,firstF 0,mlF]):Con Tryz.prog z_h2 #[.string (mkS (d0++T))] w [] (fun v Fs=> ∃S,v= .tuple #[ptr S.b,.int .i64 0]/\S.ts=[]/\S.last=0/\Fs=[stoF S]):=by
 have g:=z_hB w (Un [])
 have hml:=z_ag
 have hl:(d0++T).length=76:=by rw [<-hT,List.length_append,z_ct];rfl
 refine z_d2 (cx:=z_gj w (Un [])) g z_lJ [.c (.v (.string (mkS (d0++T))))] [oddF 2,firstF 0,mlF] hm ?_
 refine BIf.dec (fun q=>absurd (show (262144:Int)<((d0++T).length:Int) from q) (by omega)) (fun _=>?_)
 refine z_af (v:= .string (mkS (sumL []))) (fun β w' hs=>z_eK w' [] (by decide) (hs.get 0 rfl) (hs.get 1 rfl)) ?_
 refine BIf.dec (fun q=>absurd (show ((d0++T).length:Int)<((sumL []).length:Int) from q) (by rw [z_ct];omega)) (fun _=>?_)
 refine z_ak g z_iK (by kernel_rfl) [] [oddF 2,firstF 0,mlF] (Sub.of (List.Sublist.refl _) (List.Sublist.refl _)) ?_
 have e7:IntKind.i64.wrap (((mkS (d0++T)).size:Int) - ((mkS (sumL [])).size:Int))=7:=by
  show IntKind.i64.wrap (((d0++T).length:Int) - ((sumL []).length:Int))=7
  rw [hl,z_ct]
  decide
 have hsz:(mkS (d0++T)).size=76:=hl
 have x1:(mkS (d0++T)).extract 0 7=mkS d0:=by rw [z_dL _ 0 7 (by omega)];congr 1
 have x2:(mkS (d0++T)).extract 7 (mkS (d0++T)).size=mkS T:=by
  rw [hsz,z_dL _ 7 76 (by omega),List.take_of_length_le (by omega)]
  congr 1
 refine ⟨7,e7,?_⟩
 refine ⟨7,0,rfl,rfl,by omega,Nat.zero_le _,?_⟩
 refine ⟨7,e7,?_⟩
 refine ⟨(mkS (d0++T)).size,7,rfl,rfl,Nat.le_refl _,by omega,?_⟩
 rw [x1,x2]
 refine z_af (v:= .tuple #[.string (mkS (hx0++[10])),.bool true]) (fun β w' hs=>by
  have h:=z_px w' (mkS T) (mkS [115,117,109,32])
  rw [mkSo,mkSo,<-hT,pf1,pf2] at h
  rw [<-hT]
  exact h) ?_
 refine z_af (v:= .string (mkS hx0)) (fun β w' hs=>by
  have h:=z_nK w' (mkS (hx0++[10])) (mkS [10]) (by show (hx0++[10]).length<=_;rw [List.length_append,z_oU];decide)
  rw [mkSo,mkSo,pf4] at h
  exact h) ?_
 refine z_ac [] (fun β w' hs=>z_oj w' hx0 (by rw [z_oU];decide)) ?_
 rintro v Fs ⟨A,l',c,e,rfl,hd,hlc,rfl⟩
 have hu:=z_me (Sha.sum d0)
 obtain rfl:e=0:=by
  rcases hd with ⟨h,_⟩ | ⟨_,h⟩
  ·exact h
  ·exact absurd (hu.symm.trans h) (by simp)
 clear hd hu
 refine z_af (v:= .bool true) (fun β w' hs=>by
  have h:=z_kB w' (mkS (hx0++[10])) (mkS [10]) (by show (hx0++[10]).length<=_;rw [List.length_append,z_oU];decide)
  rw [mkSo,mkSo,pf3] at h
  exact h) ?_
 refine z_af (v:= .bool true) (fun β w' hs=>by
  have h:=z_kB w' (mkS d0) (mkS [10]) (by decide)
  rw [mkSo,mkSo,show Lib.hasSuffix d0 [10]=true from by decide] at h
  exact h) ?_
 refine z_af (v:= .string (mkS T)) (fun β w' hs=>by
  have h:=z_eK w' d0 (by decide) (hs.get 1 rfl) (hs.get 2 rfl)
  rw [hT] at h
  exact h) ?_
 refine BIf.not (BIf.dec (fun _=>?_) (fun h=>absurd rfl h))
 refine z_ac [] (fun β w' hs=>z_qC w') ?_
 rintro v Fs ⟨b,m,rfl,rfl⟩
 refine z_ac [0] (fun β w' hs=>z_uF w' (sto0 b m) rfl rfl (hs.mem.take (js:=[0,4]) rfl)) ?_
 rintro v Fs ⟨rfl,S',hb,ht,hl0,rfl⟩
 replace hb:S'.b=b:=hb
 refine z_ac [0] (R:=fun v Fs=>v= .string (mkS (d0++T))/\Fs=[stoF S']) (fun β w' hs=>by
  have h:=z_oA w' S' ht hl0 (hs.mem.take (js:=[0,2,3]) rfl)
  rw [hT,hb] at h
  exact h) ?_
 rintro v Fs ⟨rfl,rfl⟩
 refine BIf.not (BIf.dec (fun _=>?_) (fun h=>absurd rfl h))
 intro β w' hs
 exact hs.fin [0] ⟨S',by rw [hb];rfl,ht,hl0,rfl⟩
theorem z_rp (w:World) (hm:Mem w [oddF 2,firstF 0,mlF,oddF 1]):Pu Tryz.prog z_c0 #[] w (.bool true):=by
 have g:=z_e4 w (Un [])
 obtain ⟨T,hT⟩: ∃T,sumL d0=T:=⟨_,rfl⟩
 refine z_d2 (cx:=z_cy w (Un [])) g z_hd [] [oddF 2,firstF 0,mlF,oddF 1] hm ?_
 refine z_ac [] (fun β w' hs=>z_qC w') ?_
 rintro v Fs ⟨b,m,rfl,rfl⟩
 refine z_ac [0] (R:=fun v Fs=>v= .string (mkS (d0++T))/\Fs=[stoF (sto0 b m)]) (fun β w' hs=>by
  have h:=z_oA w' (sto0 b m) rfl rfl (hs.mem.take (js:=[0,1,2]) rfl)
  rw [hT] at h
  exact h) ?_
 rintro v Fs ⟨rfl,rfl⟩
 refine z_ac [] (fun β w' hs=>z_to w' T hT (hs.mem.take (js:=[1,2,3]) rfl)) ?_
 rintro v Fs ⟨S,rfl,ht,hl0,rfl⟩
 refine z_af (v:= .string (mkS (d0++T))) (fun β w' hs=>by
  have h:=z_i7 w' d0 (by decide) (hs.get 5 rfl)
  rw [hT] at h
  exact h) ?_
 refine BIf.dec (fun _=>?_) (fun h=>absurd rfl h)
 refine z_ac [0] (R:=fun v Fs=>v= .string (mkS (d0++T))/\Fs=[stoF S]) (fun β w' hs=>by
  have h:=z_oA w' S ht hl0 (hs.mem.take (js:=[0,2,3]) rfl)
  rw [hT] at h
  exact h) ?_
 rintro v Fs ⟨rfl,rfl⟩
 intro β w' hs
 refine hs.fin [] ⟨?_,rfl⟩
 show Value.bool (decide (mkS (d0++T)=mkS (d0++T)))=_
 simp
def sumW:List UInt8:=[115,117,109,32]
def bodyT (T:List UInt8):List UInt8:=T.take (T.length - 69)
def sealT (T:List UInt8):List UInt8:=T.drop (T.length - 69)
structure Shp (T:List UInt8):Prop where
 p:Lib.hasPrefix (sealT T) sumW=true
 u: ∃l,unhexA (Lib.trimSuffix (Lib.trimPrefix (sealT T) sumW) [10])=some l
 s:Lib.hasSuffix (Lib.trimPrefix (sealT T) sumW) [10]=true
 b:bodyT T=[]\/Lib.hasSuffix (bodyT T) [10]=true
def CodeT (Ok:List UInt8->Prop) (T:List UInt8) (e:Int):Prop:=
 (262144<T.length/\e=3)\/(T.length<=262144/\((T.length<69/\e=4)\/(69<=T.length/\
  ((¬Shp T/\e=4)\/(Shp T/\((sumL (bodyT T)≠sealT T/\e=13)\/(sumL (bodyT T)=sealT T/\((¬Ok (bodyT T)/\e=4)\/(Ok (bodyT T)/\e=0)))))))))
theorem z_o7 {Ok Ok':List UInt8->Prop} (h: ∀b,Ok b↔Ok' b) {T:List UInt8} {e e':Int} (h1:CodeT Ok T e) (h2:CodeT Ok' T e'):e=e':=by
 rcases h1 with ⟨a1,rfl⟩ | ⟨a1,⟨a2,rfl⟩ | ⟨a2,⟨a3,rfl⟩ | ⟨a3,⟨a4,rfl⟩ | ⟨a4,⟨a5,rfl⟩ | ⟨a5,rfl⟩⟩⟩⟩⟩<;>
 rcases h2 with ⟨b1,rfl⟩ | ⟨b1,⟨b2,rfl⟩ | ⟨b2,⟨b3,rfl⟩ | ⟨b3,⟨b4,rfl⟩ | ⟨b4,⟨b5,rfl⟩ | ⟨b5,rfl⟩⟩⟩⟩⟩<;>
 first
  | rfl
  | (exfalso;omega)
  | exact absurd b3 a3
  | exact absurd a3 b3
  | exact absurd b4 a4
  | exact absurd a4 b4
  | exact absurd ((h _).2 b5) a5
  | exact absurd ((h _).1 a5) b5
theorem z_ij (T:List UInt8):bodyT T++sealT T=T:=List.take_append_drop _ _
theorem z_sY {T:List UInt8} (h:69<=T.length):(sealT T).length=69:=by
 unfold sealT
 rw [List.length_drop]
 omega
def LoadOut (T:List UInt8) (v:Value) (Fs:List Fact):Prop:= ∃e:Int,CodeT OkP T e/\((e≠0/\v= .tuple #[.pointer none,.int .i64 e]/\Fs=[])\/
 (e=0/\ ∃(S:Sto) (Y:RA),Jn S.a Y/\RPl Y/\dumpL S.a=T/\v= .tuple #[ptr S.b,.int .i64 0]/\Fs=[stoF S]))
theorem z_qX {b:List UInt8} {x:FS} (h:Run StepP 0 (lnL b) fs0 x): ∃Y:RA,Jn x.X Y/\RPl Y:=by
 obtain ⟨y,k1,k2⟩:=Run.sim FG (fun _ _=>True) z_ro _ 0 fs0 gs0 x fg0 (fun _ _ _=>trivial) h
 exact ⟨y.Y,k2.j,Run.inv (fun a=>RPl a.Y) RPl.step _ 0 gs0 y ⟨fun _ h=>(by cases h),fun _ h=>(by cases h)⟩ k1⟩
set_option maxHeartbeats 1000000 in
theorem z_pK (w:World) (T:List UInt8) (hT:T.length<=100000) (hm:Mem w [oddF 2,firstF 0,mlF,errF 5,errF 6,powF,namF]):Con Tryz.prog z_h2 #[.string (mkS T)] w [] (LoadOut T):=by
 have g:=z_hB w (Un [])
 have hml:=z_ag
 refine z_lS (cx:=z_gj w (Un [])) g z_lJ [.c (.v (.string (mkS T)))] [oddF 2,firstF 0,mlF,errF 5,errF 6,powF,namF] hm ?_ ⟨rfl,rfl,rfl,rfl,rfl,rfl,rfl,trivial⟩
 refine z_an g ?_
 refine z_an g ?_
 refine BIf.dec (fun q=>absurd (show (262144:Int)<(T.length:Int) from q) (by omega)) (fun _=>?_)
 refine z_an g ?_
 refine z_af (v:= .string (mkS (sumL []))) (fun β w' hs=>z_eK w' [] (by decide) (hs.get 0 rfl) (hs.get 1 rfl)) ?_
 have h69:((mkS (sumL [])).size:Int)=69:=by show ((sumL []).length:Int)=69;rw [z_ct];rfl
 refine z_an g ?_
 refine BIf.dec (fun q=>?_) (fun q=>?_)
 ·have q0:(T.length:Int)<((mkS (sumL [])).size:Int):=q
  intro β w' hs
  exact hs.fin [] ⟨4,.inr ⟨by omega,.inl ⟨by omega,rfl⟩⟩,.inl ⟨by decide,rfl,rfl⟩⟩
 have q0: ¬(T.length:Int)<((mkS (sumL [])).size:Int):=q
 have hTl:69<=T.length:=by omega
 obtain ⟨k,hk⟩: ∃k,T.length - 69=k:=⟨_,rfl⟩
 have ek:IntKind.i64.wrap (((mkS T).size:Int) - ((mkS (sumL [])).size:Int))=(k:Int):=by
  rw [h69]
  show IntKind.i64.wrap ((T.length:Int) - 69)=_
  rw [wrap_i64 (by omega) (by omega)]
  omega
 have hsz:(mkS T).size=T.length:=rfl
 have x1:(mkS T).extract 0 k=mkS (bodyT T):=by rw [z_dL _ 0 k (by omega),List.drop_zero];unfold bodyT;rw [hk]
 have x2:(mkS T).extract k (mkS T).size=mkS (sealT T):=by
  rw [hsz,z_dL _ k _ (Nat.le_refl _),List.take_length]
  unfold sealT
  rw [hk]
 refine z_an g ?_
 refine z_ak g z_iK (by kernel_rfl) [] [oddF 2,firstF 0,mlF,errF 5,errF 6,powF,namF] (Sub.of (List.Sublist.refl _) (List.Sublist.refl _)) ?_
 refine ⟨(k:Int),ek,?_⟩
 refine ⟨k,0,rfl,rfl,by omega,Nat.zero_le _,?_⟩
 refine ⟨(k:Int),ek,?_⟩
 refine ⟨(mkS T).size,k,rfl,rfl,Nat.le_refl _,by omega,?_⟩
 rw [x1,x2]
 have hsl:=z_sY hTl
 have hbl:(bodyT T).length<=99999:=by unfold bodyT;rw [List.length_take];omega
 have hno: ¬Shp T->CodeT OkP T 4:=fun h=> .inr ⟨by omega,.inr ⟨hTl,.inl ⟨h,rfl⟩⟩⟩
 have hbs:=z_ij T
 have hshp:Shp T↔(Lib.hasPrefix (sealT T) sumW=true/\(∃l,unhexA (Lib.trimSuffix (Lib.trimPrefix (sealT T) sumW) [10])=some l)/\Lib.hasSuffix (Lib.trimPrefix (sealT T) sumW) [10]=true/\(bodyT T=[]\/Lib.hasSuffix (bodyT T) [10]=true)):=⟨fun h=>⟨h.p,h.u,h.s,h.b⟩,fun h=>⟨h.1,h.2.1,h.2.2.1,h.2.2.2⟩⟩
 have hdl:(Lib.trimPrefix (sealT T) sumW).length<=69:=by
  unfold Lib.trimPrefix
  split
  ·rw [List.length_drop];omega
  ·omega
 have hd2:(Lib.trimSuffix (Lib.trimPrefix (sealT T) sumW) [10]).length<=69:=by
  unfold Lib.trimSuffix
  split
  ·rw [List.length_take];omega
  ·omega
 refine z_an g ?_
 refine z_af (v:= .tuple #[.string (mkS (Lib.trimPrefix (sealT T) sumW)),.bool (Lib.hasPrefix (sealT T) sumW)]) (fun β w' hs=>by
  have h:=z_px w' (mkS (sealT T)) (mkS sumW)
  rw [mkSo,mkSo] at h
  exact h) ?_
 generalize Lib.trimPrefix (sealT T) sumW=dg at hshp hdl hd2 ⊢
 refine z_b3 (ι:=Unit) g (fun _=>Shp T) 0 (fun _=>[(0,.c (.v (.string (mkS T)))),(2,.c (.v (.pointer none))),(3,.c (.v (.int .i64 0))),(5,.c (.v (.string (mkS (bodyT T))))),(6,.c (.v (.string (mkS (sealT T)))))]) (fun _=>[]) (fun _=>[oddF 2,firstF 0,mlF,errF 5,errF 6,powF,namF]) ?_ ?_
 rotate_left
 ·refine z_af (v:= .string (mkS (Lib.trimSuffix dg [10]))) (fun β w' hs=>by
   have h:=z_nK w' (mkS dg) (mkS [10]) (by show dg.length<=_;omega)
   rw [mkSo,mkSo] at h
   exact h) ?_
  generalize Lib.trimSuffix dg [10]=d2 at hshp hd2 ⊢
  refine z_ac [] (fun β w' hs=>z_oj w' d2 (by omega)) ?_
  rintro v Fs ⟨A,l',c,e,rfl,hd,hlc,rfl⟩
  generalize Lib.hasPrefix (sealT T) sumW=hp at hshp ⊢
  cases hp with
  | false=>
   intro β w' hs
   exact hs.fin [] ⟨4,hno (fun h=>by have:=(hshp.1 h).1;cases this),.inl ⟨by decide,rfl,rfl⟩⟩
  | true=>
  refine BIf.not (BIf.dec (fun he=>?_) (fun he=>?_))
  rotate_left
  ·have he0: ¬e=0:=he
   intro β w' hs
   exact hs.fin [] ⟨4,hno (fun h=>by
    obtain ⟨l,hl⟩:=(hshp.1 h).2.1
    rcases hd with ⟨q,_⟩ | ⟨_,q⟩
    ·exact he0 q
    ·rw [hl] at q;cases q),.inl ⟨by decide,rfl,rfl⟩⟩
  have he0:e=0:=he
  have hun: ∃l,unhexA d2=some l:=by
   rcases hd with ⟨_,q⟩ | ⟨q,_⟩
   ·exact ⟨_,q⟩
   ·exact absurd he0 q
  refine z_af (v:= .bool (Lib.hasSuffix dg [10])) (fun β w' hs=>by
   have h:=z_kB w' (mkS dg) (mkS [10]) (by show dg.length<=_;omega)
   rw [mkSo,mkSo] at h
   exact h) ?_
  generalize Lib.hasSuffix dg [10]=hsx at hshp ⊢
  cases hsx with
  | false=>
   intro β w' hs
   exact hs.fin [] ⟨4,hno (fun h=>by have:=(hshp.1 h).2.2.1;cases this),.inl ⟨by decide,rfl,rfl⟩⟩
  | true=>
  refine BIf.not (BIf.dec (fun hb0=>?_) (fun hb0=>?_))
  ·have hb1:bodyT T=[]:=mkS1 (show mkS (bodyT T)=mkS [] from hb0)
   exact EntX.of () (hshp.2 ⟨rfl,hun,rfl,.inl hb1⟩) (Ent.mk' ⟨rfl,rfl,rfl,rfl,rfl,trivial⟩ rfl (fun β w' hs=>hs.perm [1,2,3,4,5,6,7]))
  have hb1: ¬bodyT T=[]:=fun e=>hb0 (congrArg mkS e)
  refine z_af (v:= .bool (Lib.hasSuffix (bodyT T) [10])) (fun β w' hs=>by
   have h:=z_kB w' (mkS (bodyT T)) (mkS [10]) (by show (bodyT T).length<=_;omega)
   rw [mkSo,mkSo] at h
   exact h) ?_
  generalize Lib.hasSuffix (bodyT T) [10]=hbx at hshp ⊢
  cases hbx with
  | false=>
   intro β w' hs
   exact hs.fin [] ⟨4,hno (fun h=>by
    rcases (hshp.1 h).2.2.2 with q | q
    ·exact hb1 q
    ·cases q),.inl ⟨by decide,rfl,rfl⟩⟩
  | true=>
   exact EntX.of () (hshp.2 ⟨rfl,hun,rfl,.inr rfl⟩) (Ent.mk' ⟨rfl,rfl,rfl,rfl,rfl,trivial⟩ rfl (fun β w' hs=>hs.perm [1,2,3,4,5,6,7]))
 rintro _ hS
 clear hshp hdl hd2 hno
 refine z_an g ?_
 refine z_af (v:= .string (mkS (sumL (bodyT T)))) (fun β w' hs=>z_eK w' (bodyT T) (by omega) (hs.get 0 rfl) (hs.get 1 rfl)) ?_
 refine BIf.not (BIf.dec (fun h5=>?_) (fun h5=>?_))
 rotate_left
 ·have h50:sumL (bodyT T)≠sealT T:=fun e=>h5 (congrArg mkS e)
  intro β w' hs
  exact hs.fin [] ⟨13,.inr ⟨by omega,.inr ⟨hTl,.inr ⟨hS,.inl ⟨h50,rfl⟩⟩⟩⟩,.inl ⟨by decide,rfl,rfl⟩⟩
 have h50:sumL (bodyT T)=sealT T:=mkS1 h5
 have hbad: ¬OkP (bodyT T)->CodeT OkP T 4:=fun h=> .inr ⟨by omega,.inr ⟨hTl,.inr ⟨hS,.inr ⟨h50,.inl ⟨h,rfl⟩⟩⟩⟩⟩
 refine z_an g ?_
 refine z_ac [] (fun β w' hs=>z_qC w') ?_
 rintro v Fs ⟨b,m,rfl,rfl⟩
 refine z_an g ?_
 refine z_ac [0] (fun β w' hs=>z_vO w' (sto0 b m) (bodyT T) hbl (hs.mem.take (js:=[0,3,4,5,6,7]) rfl)) ?_
 rintro v Fs (⟨rfl,S',x,hrun,hSa,hSb,rfl⟩ | ⟨rfl,hrun,S',rfl⟩)
 rotate_left
 ·intro β w' hs
  exact (hs.keepB (List.nil_sublist _)).fin [] ⟨4,hbad (fun ⟨x,hx,_⟩=>hrun x hx),.inl ⟨by decide,rfl,rfl⟩⟩
 have hrun0:Run StepP 0 (lnL (bodyT T)) fs0 x:=hrun
 obtain ⟨Y,hj,hp⟩:=z_qX hrun0
 have hj2:Jn S'.a Y:=by rw [hSa];exact hj
 have hSb':S'.b=b:=hSb
 obtain ⟨D,hD⟩: ∃D,dumpL S'.a=D:=⟨_,rfl⟩
 refine z_ac [] (R:=fun v Fs=>v= .string (mkS D)/\Fs=[]) (fun β w' hs=>by
  have h:=z_rN w' S' hj2 hp ((hs.asRo 0 rfl).mem.take (js:=[0,1,2,6]) rfl)
  rw [hD,hSb'] at h
  exact h) ?_
 rintro v Fs ⟨rfl,rfl⟩
 refine BIf.not (BIf.dec (fun h6=>?_) (fun h6=>?_))
 ·have h60:D=T:=mkS1 h6
  have hok:OkP (bodyT T):=by
   refine ⟨x,hrun0,?_⟩
   rw [<-hSa]
   have e:catL (bodyA S'.a)++sumL (catL (bodyA S'.a))=bodyT T++sealT T:=by rw [hbs];exact hD.trans h60
   exact (List.append_inj' e (by rw [z_ct,hsl])).1
  refine z_an g ?_
  refine z_fI g ?_
  intro β w' hs
  exact hs.fin [0] ⟨0,.inr ⟨by omega,.inr ⟨hTl,.inr ⟨hS,.inr ⟨h50,.inr ⟨hok,rfl⟩⟩⟩⟩⟩,.inr ⟨rfl,S',Y,hj2,hp,hD.trans h60,by rw [hSb'];rfl,rfl⟩⟩
 ·have h60: ¬D=T:=fun e=>h6 (congrArg mkS e)
  intro β w' hs
  refine (hs.keepB (List.nil_sublist _)).fin [] ⟨4,hbad (fun ⟨x',hx',hc⟩=>h60 ?_),.inl ⟨by decide,rfl,rfl⟩⟩
  obtain rfl:=Run.one StepP.one _ 0 _ _ _ hrun0 hx'
  rw [<-hD,<-hbs,<-h50,<-hc,<-hSa]
  rfl
theorem z_pe {cx:Cx} {β:Va} {n:Nat} {H:List Bk} {w:World} (R:RS) (c:Crd) (hs:Sat cx β n H [csF [c],rsF R] w) (hrc:c.roles.length<=c.rc) (hw:R.Wf) (ht:c.tenant.size<=100000) (hu:c.user.size<=100000) (hrs: ∀r∈c.roles,r.size<=100000) (hrl:c.roles.length<=100000):
  Con Tryz.prog z_bO #[ptr R.b,.agg c.vs.toArray] w [csF [c],rsF R] (rsOut R (loadR R.a c.a)):=by
 have h2:=hs.rsPool2
 have hR:RS.Wf {R with ps:=secF c.sec.x c.sec.a::rdF 1 c.rA c.roles.length (strs c.roles)::R.ps}:=(hw.pool _).pool _
 refine ((z_uS w {R with ps:=secF c.sec.x c.sec.a::rdF 1 c.rA c.roles.length (strs c.roles)::R.ps} c ⟨List.mem_cons_self,List.mem_cons_of_mem _ List.mem_cons_self,hrc⟩ hR ht hu hrs hrl (h2.mem.take (js:=[0]) rfl)).gs z_q5).mono fun v Fs h=>?_
 obtain ⟨R',h1,h2,h3,h4,h5,h6,h7,h8⟩:=h
 exact ⟨R',h1,h2,h3,h4,h5,h6,fun f hf=>h7 f (List.mem_cons_of_mem _ (List.mem_cons_of_mem _ hf)),h8⟩
def OkT (T:List UInt8) (y:GS):Prop:=2<=(lnL T).length/\Run StepR 0 ((lnL T).take ((lnL T).length - 1)) gs0 y/\dumpR y.Y=T
def RLoadOut (T:List UInt8) (v:Value) (Fs:List Fact):Prop:=
 (∃R:RS,(∃y,OkT T y)/\v=ptr R.b/\Fs=[rsF R])\/((∀y,¬OkT T y)/\v= .pointer none/\Fs=[])
structure RowV where
 A:Option Addr
 x:List UInt8
 c:Nat
structure ULI where
 k:Nat
 a:RowV
 b:RowV
 s:RowV
 h:RowV
structure ULI.Ok (w5 w6 w7 w8:List UInt8) (u:ULI):Prop where
 k:5<=u.k/\u.k<=9
 a:5<u.k->decP w5=some u.a.x
 b:6<u.k->decP w6=some u.b.x
 s:7<u.k->decP w7=some u.s.x
 h:8<u.k->decP w8=some u.h.x
 ac:u.a.x.length<=u.a.c
 bc:u.b.x.length<=u.b.c
 sc:u.s.x.length<=u.s.c
 hc:u.h.x.length<=u.h.c
structure RLI where
 i:Nat
 R:RS
 t:List UInt8
structure RLI.Ok (L:List (List UInt8)) (b:Nat) (j:RLI):Prop where
 i:j.i<=L.length
 run:Run StepR 0 (L.take j.i) gs0 ⟨j.R.a,j.t⟩
 jn: ∃X:ASto,Jn X j.R.a
 b:j.R.b=b
 tc:j.R.ts.length<=j.R.tc
 lc:j.R.cs.length<=j.R.lc
 mem: ∀c∈j.R.cs,inP j.R.ps c
 t:j.t.length<=100000
theorem RLI.Ok.wf {L:List (List UInt8)} {b:Nat} {j:RLI} (h:j.Ok L b):j.R.Wf:=by
 obtain ⟨X,hX⟩:=h.jn
 exact hX.rsWf h.tc h.lc h.mem
set_option maxHeartbeats 2000000 in
theorem z_sp (w:World) (T:List UInt8) (hT:T.length<=99999) (hm:Mem w [oddF 1]):Con Tryz.prog z_dX #[.string (mkS T)] w [] (RLoadOut T):=by
 have g:=z_f3 w (Un [])
 have hml:=z_ag
 refine z_lS (cx:=z_dk w (Un [])) g z_ic [.c (.v (.string (mkS T)))] [oddF 1] hm ?_
 refine z_an g ?_
 refine z_an g ?_
 refine z_qO 0 (fun b=>(rs0 b).vs) rfl rfl (fun b=>rfl) (fun b=>?_)
 refine z_ug (F':=[rsF (rs0 b),oddF 1]) (fun β w' hs=>hs.rs0) ?_
 refine z_an g ?_
 refine z_an g ?_
 refine z_ac [] (fun β w' hs=>z_sU w' T (by omega)) ?_
 rintro v Fs ⟨ad,c,Xf,rfl,hXo,hXp,hXc,rfl⟩
 obtain ⟨LL,hLL⟩: ∃LL,lnL T=LL:=⟨_,rfl⟩
 have hOk: ∀y,OkT T y↔(2<=LL.length/\Run StepR 0 (LL.take (LL.length - 1)) gs0 y/\dumpR y.Y=T):=fun y=>by unfold OkT;rw [hLL]
 have hlle: ∀x∈LL,x.length<=99999:=fun x hx=>by
  rw [<-hLL] at hx
  exact Nat.le_trans (z_tR hx) hT
 have hlll:LL.length<=100001:=by
  rw [<-hLL]
  have:=z_jf 10 T
  unfold lnL
  split
  ·rw [List.length_dropLast];omega
  ·omega
 rw [hLL] at hXc hXp ⊢
 refine z_an g ?_
 refine BIf.dec (fun h2=>?_) (fun h2=>?_)
 ·have h20:(LL.length:Int)<2:=h2
  intro β w' hs
  exact (hs.keepB (List.nil_sublist _)).fin [] (.inr ⟨fun y hy=>by have:=((hOk y).1 hy).1;omega,rfl,rfl⟩)
 have h20: ¬(LL.length:Int)<2:=h2
 obtain ⟨L,hL⟩: ∃L,LL.take (LL.length - 1)=L:=⟨_,rfl⟩
 have hLn:L.length=LL.length - 1:=by rw [<-hL,List.length_take];omega
 have hLm: ∀x∈L,x.length<=99999:=fun x hx=>hlle x (by rw [<-hL] at hx;exact List.mem_of_mem_take hx)
 have hrd: ∀w,Xf.p w->Rd 1 (some ad) L.length (L.map fun x=>Value.string (mkS x)) w:=fun w hp=>by
  have h:=Rd.pre1 (hXp w hp) L.length (by omega)
  rw [hLn,<-hL,List.map_take]
  rw [hLn] at h
  exact h
 have hOk2: ∀y,OkT T y↔(Run StepR 0 L gs0 y/\dumpR y.Y=T):=fun y=>by rw [hOk,hL];exact ⟨fun h=>h.2,fun h=>⟨by omega,h⟩⟩
 refine z_an g ?_
 refine ⟨((LL.length - 1:Nat):Int),by rw [wrap_i64 (by omega) (by omega)];omega,?_⟩
 refine ⟨c,LL.length - 1,0,LL.length - 1,c,_,rfl,rfl,rfl,by omega,by omega,by omega,rfl,rfl,rfl,?_⟩
 rw [<-hLn]
 refine z_ai (ι:=RLI) 1 (fun j=>[(0,.c (.v (.string (mkS T)))),(2,.c (.v (.pointer none))),(3,.c (.v (ptr b))),(4,.c (.v (.string (mkS j.t)))),(32,.c (.v (.slice (some ad) L.length c))),(33,.c (.v (.int .i64 (L.length:Int)))),(34,.c (.v (.int .i64 (j.i:Int))))]) (fun _=>[]) (fun j=>[rsF j.R,Xf,oddF 1])
  (fun j=>j.Ok L b) (fun j=>L.length - j.i) ⟨0,rs0 b,[]⟩ ⟨Nat.zero_le _,rfl,⟨⟨[],0,0⟩,fg0.j⟩,rfl,Nat.le_refl _,Nat.le_refl _,fun c hc=>(by cases hc),Nat.zero_le _⟩ (Ent.mk' ⟨rfl,rfl,rfl,rfl,by simp [cutA,Addr.add];rfl,rfl,rfl,trivial⟩ rfl (fun β w' hs=>hs.perm [1,0,2])) g ?_
 rintro ⟨i,R,t⟩ hok
 have hw:=hok.wf
 obtain ⟨hi,hrun,⟨X,hX⟩,hb,htc,hlc,hmem,ht⟩:=hok
 simp only at hi hrun hX hb htc hlc hmem ht hw
 refine BIf.dec (fun hlt=>?_) (fun hge=>?_)
 ·have hlt0:(i:Int)<L.length:=hlt
  obtain ⟨x,hx,hxm⟩:=at_lt (show i<L.length by omega)
  have hxl:=hLm x hxm
  have hsp:=z_nc hx
  have hil:(L.take i).length=i:=by rw [List.length_take];omega
  have hstop:(∀m,¬StepR i x ⟨R.a,t⟩ m)-> ∀y,¬OkT T y:=fun hn y hy=>by
   have h:=((hOk2 y).1 hy).1
   rw [hsp] at h
   exact Run.no StepR.one hrun (by rw [hil];exact hn) y h
  have hgo: ∀(R2:RS) (t2:List UInt8),StepR i x ⟨R.a,t⟩ ⟨R2.a,t2⟩->(∃X,Jn X R2.a)->R2.b=R.b->R2.ts.length<=R2.tc->R2.cs.length<=R2.lc->(∀c∈R2.cs,inP R2.ps c)->t2.length<=100000->RLI.Ok L b ⟨i+1,R2,t2⟩:=fun R2 t2 h1 h2 h3 h4 h5 h6 h7=>by
   refine ⟨by show i+1<=L.length;omega,?_,h2,h3.trans hb,h4,h5,h6,h7⟩
   show Run StepR 0 (L.take (i+1)) gs0 _
   rw [List.take_add_one,hx]
   exact hrun.snoc (by rw [hil];exact h1)
  refine ⟨_,i,rfl,rfl,by omega,?_⟩
  refine ⟨.string (mkS x),fun β w' hs=>Rd.cell1 (hrd _ (hs.get 1 rfl)) (by simp [hx]),?_⟩
  refine z_ac [] (fun β w' hs=>z_mG w' x 32 (by omega)) ?_
  rintro v Fs ⟨ad2,c2,rfl,hc2,rfl⟩
  obtain ⟨W,hW⟩: ∃W,splL 32 x=W:=⟨_,rfl⟩
  have hWl: ∀y∈W,y.length<=100000:=fun y hy=>by
   rw [<-hW] at hy
   exact Nat.le_trans (z_lK y hy) (by omega)
  have hst: ∀m,StepR i x ⟨R.a,t⟩ m↔((i=0/\W.length=2/\(∃n,nR (W.getD 1 []) n/\raiseTR R.a n=(0,m.Y))/\m.t=t)\/(i≠0/\W.length=2/\addTR R.a (mkS (W.getD 1 []))=(0,m.Y)/\m.t=W.getD 1 [])\/(i≠0/\W.length≠2/\t≠[]/\(∃c,Par nR (mkS t) W c/\loadR R.a c=(0,m.Y))/\m.t=t)):=fun m=>by rw [<-hW];exact Iff.rfl
  rw [hW] at hc2 ⊢
  refine BIf.dec (fun hi0=>?_) (fun hi0=>?_)
  ·have hi00:(i:Int)=0:=hi0
   refine BIf.not (BIf.dec (fun hw2=>?_) (fun hw2=>?_))
   rotate_left
   ·have hw20: ¬(W.length:Int)=2:=hw2
    intro β w' hs
    refine (hs.keepB (List.nil_sublist _)).fin [] (.inr ⟨hstop fun m q=>?_,rfl,rfl⟩)
    rcases (hst m).1 q with ⟨_,q,_⟩ | ⟨q,_⟩ | ⟨q,_⟩
    ·exact hw20 (by rw [q];rfl)
    ·exact q (by omega)
    ·exact q (by omega)
   have hw20:(W.length:Int)=2:=hw2
   obtain ⟨w0,w1,rfl⟩: ∃a b,W=[a,b]:=⟨_,_,z_tN (by omega)⟩
   refine ⟨_,1,rfl,rfl,by omega,?_⟩
   refine ⟨.string (mkS w1),fun β w' hs=>Rd.cell1 (z_am (hs.get 0 rfl)) rfl,?_⟩
   refine z_ac [] (fun β w' hs=>z_kE w' w1 (Nat.le_trans (hWl w1 (by simp)) (by decide))) ?_
   rintro v Fs ⟨⟨n,nb,rfl,hn⟩,rfl⟩
   cases nb with
   | false=>
    intro β w' hs
    refine (hs.keepB (List.nil_sublist _)).fin [] (.inr ⟨hstop fun m q=>?_,rfl,rfl⟩)
    rcases (hst m).1 q with ⟨_,_,⟨n2,q,_⟩,_⟩ | ⟨q,_⟩ | ⟨q,_⟩
    ·rcases hn with ⟨k,_⟩ | ⟨_,k⟩
     ·cases k
     ·rw [show rnum w1=some n2 from q] at k;cases k
    ·exact q (by omega)
    ·exact q (by omega)
   | true=>
   have hn1:rnum w1=some n:=by
    rcases hn with ⟨_,k⟩ | ⟨k,_⟩
    ·exact k
    ·cases k
   obtain ⟨rc,rY,hr⟩: ∃rc rY,raiseTR R.a n=(rc,rY):=⟨_,_,rfl⟩
   refine z_ac [1] (R:=rsOut R (rc,rY)) (fun β w' hs=>by
    have h:=z_tI w' R n hw (hs.mem.take (js:=[1]) rfl)
    rw [hb,hr] at h
    exact h) ?_
   rintro v Fs ⟨R2,rfl,k2,k3,k4,k5,k6,k7,rfl⟩
   simp only at k2
   refine BIf.not (BIf.dec (fun h4=>?_) (fun h4=>?_))
   rotate_left
   ·have h40: ¬rc=0:=h4
    intro β w' hs
    refine (hs.keepB (List.nil_sublist _)).fin [] (.inr ⟨hstop fun m q=>?_,rfl,rfl⟩)
    rcases (hst m).1 q with ⟨_,_,⟨n2,q,q2⟩,_⟩ | ⟨q,_⟩ | ⟨q,_⟩
    ·obtain rfl:=z_mh _ _ _ q hn1
     rw [hr] at q2
     injection q2 with q4 _
     exact h40 q4
    ·exact q (by omega)
    ·exact q (by omega)
   have h40:rc=0:=h4
   subst h40
   refine ⟨((i+1:Nat):Int),by rw [wrap_i64 (by omega) (by omega)];rfl,?_⟩
   have hj2:=(hX.raise n).2
   rw [hr] at hj2
   exact ⟨⟨i+1,R2,t⟩,hgo R2 t ((hst _).2 (.inl ⟨by omega,rfl,⟨n,hn1,by rw [hr,k2]⟩,rfl⟩)) ⟨_,by rw [k2];exact hj2⟩ k3 k4 k5 k6 ht,by show L.length - (i+1)<L.length - i;omega,Ent.mk' ⟨rfl,rfl,rfl,rfl,rfl,rfl,rfl,trivial⟩ rfl (fun β w' hs=>hs.perm [0,2,3])⟩
  have hi00: ¬(i:Int)=0:=hi0
  refine BIf.dec (fun hw2=>?_) (fun hw2=>?_)
  ·have hw20:(W.length:Int)=2:=hw2
   obtain ⟨w0,w1,rfl⟩: ∃a b,W=[a,b]:=⟨_,_,z_tN (by omega)⟩
   have hw1:=hWl w1 (by simp)
   refine ⟨_,1,rfl,rfl,by omega,?_⟩
   refine ⟨.string (mkS w1),fun β w' hs=>Rd.cell1 (z_am (hs.get 0 rfl)) rfl,?_⟩
   obtain ⟨rc,rY,hr⟩: ∃rc rY,addTR R.a (mkS w1)=(rc,rY):=⟨_,_,rfl⟩
   refine z_ac [1] (R:=rsOut R (rc,rY)) (fun β w' hs=>by
    have h:=z_uU w' R (mkS w1) hw (by show w1.length<=_;omega) (hs.mem.take (js:=[1]) rfl)
    rw [hb,hr] at h
    exact h) ?_
   rintro v Fs ⟨R2,rfl,k2,k3,k4,k5,k6,k7,rfl⟩
   simp only at k2
   refine BIf.not (BIf.dec (fun h4=>?_) (fun h4=>?_))
   rotate_left
   ·have h40: ¬rc=0:=h4
    intro β w' hs
    refine (hs.keepB (List.nil_sublist _)).fin [] (.inr ⟨hstop fun m q=>?_,rfl,rfl⟩)
    rcases (hst m).1 q with ⟨q,_⟩ | ⟨_,_,q,_⟩ | ⟨_,q,_⟩
    ·omega
    ·have q2:addTR R.a (mkS w1)=(0,m.Y):=q
     rw [hr] at q2
     injection q2 with q4 _
     exact h40 q4
    ·exact q rfl
   have h40:rc=0:=h4
   subst h40
   refine ⟨((i+1:Nat):Int),by rw [wrap_i64 (by omega) (by omega)];rfl,?_⟩
   have hj2:=(hX.addT (mkS w1)).2
   rw [hr] at hj2
   exact ⟨⟨i+1,R2,w1⟩,hgo R2 w1 ((hst _).2 (.inr (.inl ⟨by omega,rfl,by rw [k2];exact hr,rfl⟩))) ⟨_,by rw [k2];exact hj2⟩ k3 k4 k5 k6 hw1,by show L.length - (i+1)<L.length - i;omega,Ent.mk' ⟨rfl,rfl,rfl,rfl,rfl,rfl,rfl,trivial⟩ rfl (fun β w' hs=>hs.perm [0,2,3])⟩
  have hw20: ¬(W.length:Int)=2:=hw2
  have hstU: ∀m,StepR i x ⟨R.a,t⟩ m->t≠[]/\ ∃c,Par nR (mkS t) W c/\loadR R.a c=(0,m.Y):=fun m q=>by
   rcases (hst m).1 q with ⟨q,_⟩ | ⟨_,q,_⟩ | ⟨_,_,q1,q2,_⟩
   ·omega
   ·omega
   ·exact ⟨q1,q2⟩
  refine BIf.not (BIf.dec (fun h10=>?_) (fun h10=>?_))
  rotate_left
  ·have h100: ¬(W.length:Int)=10:=h10
   intro β w' hs
   refine (hs.keepB (List.nil_sublist _)).fin [] (.inr ⟨hstop fun m q=>?_,rfl,rfl⟩)
   rcases hstU m q with ⟨ht0,c,hp,hl⟩
   exact h100 (by rw [hp.n];rfl)
  have h100:(W.length:Int)=10:=h10
  obtain ⟨w0,w1,w2,w3,w4,w5,w6,w7,w8,w9,rfl⟩:=z_t0 (show W.length=10 by omega)
  refine BIf.dec (fun ht0=>?_) (fun ht0=>?_)
  ·have ht00:t=[]:=mkS1 (show mkS t=mkS [] from ht0)
   intro β w' hs
   refine (hs.keepB (List.nil_sublist _)).fin [] (.inr ⟨hstop fun m q=>?_,rfl,rfl⟩)
   rcases hstU m q with ⟨ht0,c,hp,hl⟩
   exact ht0 ht00
  have ht00:t≠[]:=fun e=>ht0 (congrArg mkS e)
  refine ⟨_,3,rfl,rfl,by omega,?_⟩
  refine ⟨.string (mkS w3),fun β w' hs=>Rd.cell1 (z_am (hs.get 0 rfl)) rfl,?_⟩
  refine ⟨_,1,rfl,rfl,by omega,?_⟩
  refine ⟨.string (mkS w1),fun β w' hs=>Rd.cell1 (z_am (hs.get 0 rfl)) rfl,?_⟩
  refine z_ac [] (fun β w' hs=>z_pn w' w1 (Nat.le_trans (hWl w1 (by simp)) (by decide))) ?_
  rintro v Fs ⟨A1,nm,c1,e,rfl,hnm,hc1,rfl⟩
  refine ⟨_,fun β w' hs=>z_am (hs.get 0 rfl),?_⟩
  refine ⟨_,2,rfl,rfl,by omega,?_⟩
  refine ⟨.string (mkS w2),fun β w' hs=>Rd.cell1 (z_am (hs.get 1 rfl)) rfl,?_⟩
  refine z_ac [] (fun β w' hs=>z_kE w' w2 (Nat.le_trans (hWl w2 (by simp)) (by decide))) ?_
  rintro v Fs ⟨⟨gn,ob,rfl,hgn⟩,rfl⟩
  refine ⟨_,4,rfl,rfl,by omega,?_⟩
  refine ⟨.string (mkS w4),fun β w' hs=>Rd.cell1 (z_am (hs.get 1 rfl)) rfl,?_⟩
  refine z_ac [] (fun β w' hs=>z_kE w' w4 (Nat.le_trans (hWl w4 (by simp)) (by decide))) ?_
  rintro v Fs ⟨⟨rn,ib,rfl,hrn⟩,rfl⟩
  refine BIf.not (BIf.dec (fun he=>?_) (fun he=>?_))
  rotate_left
  ·have he0: ¬e=0:=he
   intro β w' hs
   refine (hs.keepB (List.nil_sublist _)).fin [] (.inr ⟨hstop fun m q=>?_,rfl,rfl⟩)
   rcases hstU m q with ⟨ht0,c,hp,hl⟩
   rcases hnm with ⟨k,_⟩ | ⟨_,k⟩
   ·exact he0 k
   ·rw [show unhexA w1=some _ from hp.u] at k;cases k
  have he0:e=0:=he
  have hnm1:unhexA w1=some nm:=by
   rcases hnm with ⟨_,k⟩ | ⟨k,_⟩
   ·exact k
   ·exact absurd he0 k
  cases ob with
  | false=>
   intro β w' hs
   refine (hs.keepB (List.nil_sublist _)).fin [] (.inr ⟨hstop fun m q=>?_,rfl,rfl⟩)
   rcases hstU m q with ⟨ht0,c,hp,hl⟩
   rcases hgn with ⟨k,_⟩ | ⟨_,k⟩
   ·cases k
   ·rw [show rnum w2=some c.gen from hp.g] at k;cases k
  | true=>
  have hgn1:rnum w2=some gn:=by
   rcases hgn with ⟨_,k⟩ | ⟨k,_⟩
   ·exact k
   ·cases k
  cases ib with
  | false=>
   intro β w' hs
   refine (hs.keepB (List.nil_sublist _)).fin [] (.inr ⟨hstop fun m q=>?_,rfl,rfl⟩)
   rcases hstU m q with ⟨ht0,c,hp,hl⟩
   obtain ⟨r,k1,_⟩:=hp.i
   rcases hrn with ⟨k,_⟩ | ⟨_,k⟩
   ·cases k
   ·rw [show rnum w4=some r from k1] at k;cases k
  | true=>
  have hrn1:rnum w4=some rn:=by
   rcases hrn with ⟨_,k⟩ | ⟨k,_⟩
   ·exact k
   ·cases k
  refine BIf.dec (fun hr=>?_) (fun hr=>?_)
  ·have hr0:(64:Int)<(rn:Int):=hr
   intro β w' hs
   refine (hs.keepB (List.nil_sublist _)).fin [] (.inr ⟨hstop fun m q=>?_,rfl,rfl⟩)
   rcases hstU m q with ⟨ht0,c,hp,hl⟩
   obtain ⟨r,k1,k2,_⟩:=hp.i
   have k3:=z_mh _ _ _ k1 hrn1
   omega
  have hr0: ¬(64:Int)<(rn:Int):=hr
  refine ⟨(rn:Int),wrap_i64 (by omega) (by omega),?_⟩
  refine z_ai (ι:=ULI) 2 (fun u=>[(0,.c (.v (.string (mkS T)))),(2,.c (.v (.pointer none))),(3,.c (.v (ptr b))),(4,.c (.v (.string (mkS t)))),(8,.c (.v (.slice (some ad2) 10 c2))),(11,.c (.p 1 0)),(18,.c (.v (.int .i64 (u.k:Int)))),(32,.c (.v (.slice (some ad) L.length c))),(33,.c (.v (.int .i64 (L.length:Int)))),(34,.c (.v (.int .i64 (i:Int))))]) (fun u=>[⟨1,z_aj,CrdV.ss ⟨mkS t,mkS nm,⟨u.a.A,u.a.x.length,u.a.c,(rn:Int),u.b.A,u.b.x.length,u.b.c,u.s.A,u.s.x.length,u.s.c,u.h.A,u.h.x.length,u.h.c⟩,gn,none,0,0,decide (mkS w3=mkS offW)⟩⟩]) (fun u=>[browF z_ab u.h.A u.h.x u.h.c,browF z_ab u.s.A u.s.x u.s.c,browF z_ab u.b.A u.b.x u.b.c,browF z_ab u.a.A u.a.x u.a.c,prowF (some ad2) [w0,w1,w2,w3,w4,w5,w6,w7,w8,w9] c2,rsF R,Xf,oddF 1])
   (fun u=>u.Ok w5 w6 w7 w8) (fun u=>9 - u.k) ⟨5,⟨none,[],0⟩,⟨none,[],0⟩,⟨none,[],0⟩,⟨none,[],0⟩⟩ ⟨⟨by decide,by decide⟩,fun q=>absurd q (by show¬5<5;decide),fun q=>absurd q (by show¬6<5;decide),fun q=>absurd q (by show¬7<5;decide),fun q=>absurd q (by show¬8<5;decide),Nat.le_refl _,Nat.le_refl _,Nat.le_refl _,Nat.le_refl _⟩ (Ent.mk' ⟨rfl,rfl,rfl,rfl,rfl,rfl,rfl,rfl,rfl,rfl,trivial⟩ rfl (fun β w' hs=>Eq.mp (by kernel_rfl) (((((hs.nilRow z_ab 1).nilRow z_ab 1).nilRow z_ab 1).nilRow z_ab 1).perm [0,1,2,3,5,6,7,8]))) g ?_
  rintro ⟨k,ua,ub,us,uh⟩ hok
  refine BIf.dec (fun hk8=>?_) (fun hk8=>?_)
  ·have hk80:(k:Int)<=8:=hk8
   have hk5:5<=k:=hok.k.1
   have hkk:k=5\/k=6\/k=7\/k=8:=by omega
   rcases hkk with rfl | rfl | rfl | rfl
   ·refine ⟨_,5,rfl,rfl,by omega,?_⟩
    refine ⟨.string (mkS w5),fun β w' hs=>Rd.cell1 (z_am (hs.get 4 rfl)) rfl,?_⟩
    refine z_ac [] (fun β w' hs=>z_iy w' w5 false (Nat.le_trans (hWl w5 (by simp)) (by decide))) ?_
    rintro v Fs ⟨A9,x9,c9,e9,rfl,hx9,hc9,rfl⟩
    refine BIf.not (BIf.dec (fun h9=>?_) (fun h9=>?_))
    rotate_left
    ·have h90: ¬e9=0:=h9
     intro β w' hs
     refine (hs.keepB (List.nil_sublist _)).fin [] (.inr ⟨hstop fun m q=>?_,rfl,rfl⟩)
     rcases hstU m q with ⟨ht0,c,hp,hl⟩
     rcases hx9 with ⟨k,_⟩ | ⟨_,k⟩
     ·exact h90 k
     ·rw [show decX false w5=some _ from hp.a] at k;cases k
    have h90:e9=0:=h9
    have hd9:decP w5=some x9:=by
     rcases hx9 with ⟨_,k⟩ | ⟨k,_⟩
     ·exact k
     ·exact absurd h90 k
    refine ⟨((6:Nat):Int),by show IntKind.i64.wrap ((5:Int)+1)=6;decide,?_⟩
    exact ⟨⟨6,⟨A9,x9,c9⟩,ub,us,uh⟩,⟨⟨by show 5<=6;decide,by show 6<=9;decide⟩,(fun _=>hd9),(fun q=>absurd q (by show¬6<6;decide)),(fun q=>absurd q (by show¬7<6;decide)),(fun q=>absurd q (by show¬8<6;decide)),hc9,hok.bc,hok.sc,hok.hc⟩,by show 9 - 6<9 - 5;decide,Ent.mk' ⟨rfl,rfl,rfl,rfl,rfl,rfl,rfl,rfl,rfl,rfl,trivial⟩ rfl (fun β w' hs=>Eq.mp (by kernel_rfl) (hs.perm [1,2,3,0,5,6,7,8]))⟩
   ·refine ⟨_,6,rfl,rfl,by omega,?_⟩
    refine ⟨.string (mkS w6),fun β w' hs=>Rd.cell1 (z_am (hs.get 4 rfl)) rfl,?_⟩
    refine z_ac [] (fun β w' hs=>z_iy w' w6 false (Nat.le_trans (hWl w6 (by simp)) (by decide))) ?_
    rintro v Fs ⟨A9,x9,c9,e9,rfl,hx9,hc9,rfl⟩
    refine BIf.not (BIf.dec (fun h9=>?_) (fun h9=>?_))
    rotate_left
    ·have h90: ¬e9=0:=h9
     intro β w' hs
     refine (hs.keepB (List.nil_sublist _)).fin [] (.inr ⟨hstop fun m q=>?_,rfl,rfl⟩)
     rcases hstU m q with ⟨ht0,c,hp,hl⟩
     rcases hx9 with ⟨k,_⟩ | ⟨_,k⟩
     ·exact h90 k
     ·rw [show decX false w6=some _ from hp.b] at k;cases k
    have h90:e9=0:=h9
    have hd9:decP w6=some x9:=by
     rcases hx9 with ⟨_,k⟩ | ⟨k,_⟩
     ·exact k
     ·exact absurd h90 k
    refine ⟨((7:Nat):Int),by show IntKind.i64.wrap ((6:Int)+1)=7;decide,?_⟩
    exact ⟨⟨7,ua,⟨A9,x9,c9⟩,us,uh⟩,⟨⟨by show 5<=7;decide,by show 7<=9;decide⟩,(fun _=>hok.a (by show 5<6;decide)),(fun _=>hd9),(fun q=>absurd q (by show¬7<7;decide)),(fun q=>absurd q (by show¬8<7;decide)),hok.ac,hc9,hok.sc,hok.hc⟩,by show 9 - 7<9 - 6;decide,Ent.mk' ⟨rfl,rfl,rfl,rfl,rfl,rfl,rfl,rfl,rfl,rfl,trivial⟩ rfl (fun β w' hs=>Eq.mp (by kernel_rfl) (hs.perm [1,2,0,4,5,6,7,8]))⟩
   ·refine ⟨_,7,rfl,rfl,by omega,?_⟩
    refine ⟨.string (mkS w7),fun β w' hs=>Rd.cell1 (z_am (hs.get 4 rfl)) rfl,?_⟩
    refine z_ac [] (fun β w' hs=>z_iy w' w7 false (Nat.le_trans (hWl w7 (by simp)) (by decide))) ?_
    rintro v Fs ⟨A9,x9,c9,e9,rfl,hx9,hc9,rfl⟩
    refine BIf.not (BIf.dec (fun h9=>?_) (fun h9=>?_))
    rotate_left
    ·have h90: ¬e9=0:=h9
     intro β w' hs
     refine (hs.keepB (List.nil_sublist _)).fin [] (.inr ⟨hstop fun m q=>?_,rfl,rfl⟩)
     rcases hstU m q with ⟨ht0,c,hp,hl⟩
     rcases hx9 with ⟨k,_⟩ | ⟨_,k⟩
     ·exact h90 k
     ·rw [show decX false w7=some _ from hp.s] at k;cases k
    have h90:e9=0:=h9
    have hd9:decP w7=some x9:=by
     rcases hx9 with ⟨_,k⟩ | ⟨k,_⟩
     ·exact k
     ·exact absurd h90 k
    refine ⟨((8:Nat):Int),by show IntKind.i64.wrap ((7:Int)+1)=8;decide,?_⟩
    exact ⟨⟨8,ua,ub,⟨A9,x9,c9⟩,uh⟩,⟨⟨by show 5<=8;decide,by show 8<=9;decide⟩,(fun _=>hok.a (by show 5<7;decide)),(fun _=>hok.b (by show 6<7;decide)),(fun _=>hd9),(fun q=>absurd q (by show¬8<8;decide)),hok.ac,hok.bc,hc9,hok.hc⟩,by show 9 - 8<9 - 7;decide,Ent.mk' ⟨rfl,rfl,rfl,rfl,rfl,rfl,rfl,rfl,rfl,rfl,trivial⟩ rfl (fun β w' hs=>Eq.mp (by kernel_rfl) (hs.perm [1,0,3,4,5,6,7,8]))⟩
   ·refine ⟨_,8,rfl,rfl,by omega,?_⟩
    refine ⟨.string (mkS w8),fun β w' hs=>Rd.cell1 (z_am (hs.get 4 rfl)) rfl,?_⟩
    refine z_ac [] (fun β w' hs=>z_iy w' w8 false (Nat.le_trans (hWl w8 (by simp)) (by decide))) ?_
    rintro v Fs ⟨A9,x9,c9,e9,rfl,hx9,hc9,rfl⟩
    refine BIf.not (BIf.dec (fun h9=>?_) (fun h9=>?_))
    rotate_left
    ·have h90: ¬e9=0:=h9
     intro β w' hs
     refine (hs.keepB (List.nil_sublist _)).fin [] (.inr ⟨hstop fun m q=>?_,rfl,rfl⟩)
     rcases hstU m q with ⟨ht0,c,hp,hl⟩
     rcases hx9 with ⟨k,_⟩ | ⟨_,k⟩
     ·exact h90 k
     ·rw [show decX false w8=some _ from hp.h] at k;cases k
    have h90:e9=0:=h9
    have hd9:decP w8=some x9:=by
     rcases hx9 with ⟨_,k⟩ | ⟨k,_⟩
     ·exact k
     ·exact absurd h90 k
    refine ⟨((9:Nat):Int),by show IntKind.i64.wrap ((8:Int)+1)=9;decide,?_⟩
    exact ⟨⟨9,ua,ub,us,⟨A9,x9,c9⟩⟩,⟨⟨by show 5<=9;decide,by show 9<=9;decide⟩,(fun _=>hok.a (by show 5<8;decide)),(fun _=>hok.b (by show 6<8;decide)),(fun _=>hok.s (by show 7<8;decide)),(fun _=>hd9),hok.ac,hok.bc,hok.sc,hc9⟩,by show 9 - 9<9 - 8;decide,Ent.mk' ⟨rfl,rfl,rfl,rfl,rfl,rfl,rfl,rfl,rfl,rfl,trivial⟩ rfl (fun β w' hs=>Eq.mp (by kernel_rfl) (hs.perm [0,2,3,4,5,6,7,8]))⟩
  ·have hk80: ¬(k:Int)<=8:=hk8
   obtain rfl:k=9:=by have:k<=9:=hok.k.2;omega
   have hxl2:x.length<=99999:=hxl
   have hall: ∀rA rk roles,roles=rolS w9->Par nR (mkS t) [w0,w1,w2,w3,w4,w5,w6,w7,w8,w9] (Crd.a ⟨0,mkS t,mkS nm,⟨⟨ua.A,ua.c,ua.x,hok.ac⟩,(rn:Int),⟨ub.A,ub.c,ub.x,hok.bc⟩,⟨us.A,us.c,us.x,hok.sc⟩,⟨uh.A,uh.c,uh.x,hok.hc⟩⟩,gn,rA,rk,roles,decide (mkS w3=mkS offW)⟩):=fun rA rk roles hr9=>by
    refine ⟨rfl,rfl,?_,hgn1,⟨rn,hrn1,by omega,rfl⟩,hok.a (by show 5<9;decide),hok.b (by show 6<9;decide),hok.s (by show 7<9;decide),hok.h (by show 8<9;decide),hr9,?_⟩
    ·show unhexA w1=some (mkS nm).data.toList
     rw [mkSo]
     exact hnm1
    ·show decide (mkS w3=mkS offW)=decide (w3=offW)
     exact decide_eq_decide.2 ⟨fun q=>mkS1 q,fun q=>congrArg mkS q⟩
   refine ⟨_,9,rfl,rfl,by omega,?_⟩
   refine ⟨.string (mkS w9),fun β w' hs=>Rd.cell1 (z_am (hs.get 4 rfl)) rfl,?_⟩
   refine BIf.not (BIf.dec (fun h9=>?_) (fun h9=>?_))
   ·have h90:w9=[45]:=mkS1 h9
    have hpar:Par nR (mkS t) [w0,w1,w2,w3,w4,w5,w6,w7,w8,w9] (Crd.a ⟨0,mkS t,mkS nm,⟨⟨ua.A,ua.c,ua.x,hok.ac⟩,(rn:Int),⟨ub.A,ub.c,ub.x,hok.bc⟩,⟨us.A,us.c,us.x,hok.sc⟩,⟨uh.A,uh.c,uh.x,hok.hc⟩⟩,gn,none,0,[],decide (mkS w3=mkS offW)⟩):=hall _ _ _ (by rw [h90];rfl)
    have hcz:=Par.sz (l:=x) (by rw [hW];exact hpar) hxl2
    obtain ⟨rc,rY,hr⟩: ∃rc rY,loadR R.a (Crd.a ⟨0,mkS t,mkS nm,⟨⟨ua.A,ua.c,ua.x,hok.ac⟩,(rn:Int),⟨ub.A,ub.c,ub.x,hok.bc⟩,⟨us.A,us.c,us.x,hok.sc⟩,⟨uh.A,uh.c,uh.x,hok.hc⟩⟩,gn,none,0,[],decide (mkS w3=mkS offW)⟩)=(rc,rY):=⟨_,_,rfl⟩
    refine z_ac [0,1,2,3,5] (R:=rsOut R (rc,rY)) (fun β w' hs=>by
     have hs1:=(hs.keepB (List.nil_sublist _)).nilRow z_ah 1
     have hU2: ∀k,Un [csF [⟨0,mkS t,mkS nm,⟨⟨ua.A,ua.c,ua.x,hok.ac⟩,(rn:Int),⟨ub.A,ub.c,ub.x,hok.bc⟩,⟨us.A,us.c,us.x,hok.sc⟩,⟨uh.A,uh.c,uh.x,hok.hc⟩⟩,gn,none,0,[],decide (mkS w3=mkS offW)⟩],rsF R] k->Un [browF z_ab uh.A uh.x uh.c,browF z_ab us.A us.x us.c,browF z_ab ub.A ub.x ub.c,browF z_ab ua.A ua.x ua.c,rsF R] k:=by
      rintro k ⟨f,hf,hk⟩
      rcases List.mem_cons.1 hf with rfl | hf
      ·obtain ⟨f2,hf2,hk2⟩:=hs1.bsCsU (c:=⟨0,mkS t,mkS nm,⟨⟨ua.A,ua.c,ua.x,hok.ac⟩,(rn:Int),⟨ub.A,ub.c,ub.x,hok.bc⟩,⟨us.A,us.c,us.x,hok.sc⟩,⟨uh.A,uh.c,uh.x,hok.hc⟩⟩,gn,none,0,[],decide (mkS w3=mkS offW)⟩) [0,1,2,3,4] rfl rfl k hk
       rcases List.mem_cons.1 hf2 with rfl | hf2
       ·cases hk2
       ·exact ⟨f2,List.mem_append_left [rsF R] hf2,hk2⟩
      ·obtain rfl:=List.mem_singleton.1 hf
       exact ⟨rsF R,by simp,hk⟩
     have hs2:=(hs1.bsCs (c:=⟨0,mkS t,mkS nm,⟨⟨ua.A,ua.c,ua.x,hok.ac⟩,(rn:Int),⟨ub.A,ub.c,ub.x,hok.bc⟩,⟨us.A,us.c,us.x,hok.sc⟩,⟨uh.A,uh.c,uh.x,hok.hc⟩⟩,gn,none,0,[],decide (mkS w3=mkS offW)⟩) [0,1,2,3,4] rfl).perm [0,2]
     have h:=z_pe R ⟨0,mkS t,mkS nm,⟨⟨ua.A,ua.c,ua.x,hok.ac⟩,(rn:Int),⟨ub.A,ub.c,ub.x,hok.bc⟩,⟨us.A,us.c,us.x,hok.sc⟩,⟨uh.A,uh.c,uh.x,hok.hc⟩⟩,gn,none,0,[],decide (mkS w3=mkS offW)⟩ hs2 (Nat.le_refl _) hw (by show t.length<=_;omega) hcz.u hcz.r hcz.n
     rw [hb,hr] at h
     exact h.gs hU2) ?_ ⟨rfl,rfl,rfl,rfl,rfl,trivial⟩
    rintro v Fs ⟨R2,rfl,k2,k3,k4,k5,k6,k7,rfl⟩
    simp only at k2
    refine BIf.not (BIf.dec (fun h4=>?_) (fun h4=>?_))
    rotate_left
    ·have h40: ¬rc=0:=h4
     intro β w' hs
     refine (hs.keepB (List.nil_sublist _)).fin [] (.inr ⟨hstop fun m q=>?_,rfl,rfl⟩)
     rcases hstU m q with ⟨ht0,c,hp,hl⟩
     obtain rfl:=Par.one z_mh hp hpar
     rw [hr] at hl
     injection hl with q4 _
     exact h40 q4
    have h40:rc=0:=h4
    subst h40
    refine ⟨((i+1:Nat):Int),by rw [wrap_i64 (by omega) (by omega)];rfl,?_⟩
    have hj2:=(hX.load (Crd.a ⟨0,mkS t,mkS nm,⟨⟨ua.A,ua.c,ua.x,hok.ac⟩,(rn:Int),⟨ub.A,ub.c,ub.x,hok.bc⟩,⟨us.A,us.c,us.x,hok.sc⟩,⟨uh.A,uh.c,uh.x,hok.hc⟩⟩,gn,none,0,[],decide (mkS w3=mkS offW)⟩)).2
    rw [hr] at hj2
    exact ⟨⟨i+1,R2,t⟩,hgo R2 t ((hst _).2 (.inr (.inr ⟨by omega,by simp,ht00,⟨_,hpar,by rw [k2];exact hr⟩,rfl⟩))) ⟨_,by rw [k2];exact hj2⟩ k3 k4 k5 k6 ht,by show L.length - (i+1)<L.length - i;omega,Ent.mk' ⟨rfl,rfl,rfl,rfl,rfl,rfl,rfl,trivial⟩ rfl (fun β w' hs=>((hs.keepB (List.nil_sublist _)).perm [0,2,3]).lower)⟩
   have h90: ¬w9=[45]:=fun e=>h9 (congrArg mkS e)
   refine ⟨_,9,rfl,rfl,by omega,?_⟩
   refine ⟨.string (mkS w9),fun β w' hs=>Rd.cell1 (z_am (hs.get 4 rfl)) rfl,?_⟩
   refine z_ac [] (fun β w' hs=>z_mG w' w9 44 (Nat.le_trans (hWl w9 (by simp)) (by decide))) ?_
   rintro v Fs ⟨ad9,c9,rfl,hc9,rfl⟩
   obtain ⟨L9,hL9⟩: ∃L9:List ByteArray,(splL 44 w9).map mkS=L9:=⟨_,rfl⟩
   have e9:prowF (some ad9) (splL 44 w9) c9=srowF (some ad9) L9 c9:=by
    show rowF z_ah 1 (.slice _ (splL 44 w9).length _) _ _=rowF z_ah 1 (.slice _ L9.length _) _ _
    rw [<-hL9,List.length_map]
    unfold strs
    rw [List.map_map]
    rfl
   have e10:(splL 44 w9).length=L9.length:=by rw [<-hL9,List.length_map]
   rw [e10] at hc9
   rw [e9,e10]
   have hr9:L9=rolS w9:=by unfold rolS;rw [if_neg h90,hL9]
   have hpar:Par nR (mkS t) [w0,w1,w2,w3,w4,w5,w6,w7,w8,w9] (Crd.a ⟨0,mkS t,mkS nm,⟨⟨ua.A,ua.c,ua.x,hok.ac⟩,(rn:Int),⟨ub.A,ub.c,ub.x,hok.bc⟩,⟨us.A,us.c,us.x,hok.sc⟩,⟨uh.A,uh.c,uh.x,hok.hc⟩⟩,gn,some ad9,c9,L9,decide (mkS w3=mkS offW)⟩):=hall _ _ _ hr9
   have hcz:=Par.sz (l:=x) (by rw [hW];exact hpar) hxl2
   obtain ⟨rc,rY,hr⟩: ∃rc rY,loadR R.a (Crd.a ⟨0,mkS t,mkS nm,⟨⟨ua.A,ua.c,ua.x,hok.ac⟩,(rn:Int),⟨ub.A,ub.c,ub.x,hok.bc⟩,⟨us.A,us.c,us.x,hok.sc⟩,⟨uh.A,uh.c,uh.x,hok.hc⟩⟩,gn,some ad9,c9,L9,decide (mkS w3=mkS offW)⟩)=(rc,rY):=⟨_,_,rfl⟩
   refine z_ac [0,1,2,3,4,6] (R:=rsOut R (rc,rY)) (fun β w' hs=>by
    have hs1:=hs.keepB (List.nil_sublist _)
    have hU2: ∀k,Un [csF [⟨0,mkS t,mkS nm,⟨⟨ua.A,ua.c,ua.x,hok.ac⟩,(rn:Int),⟨ub.A,ub.c,ub.x,hok.bc⟩,⟨us.A,us.c,us.x,hok.sc⟩,⟨uh.A,uh.c,uh.x,hok.hc⟩⟩,gn,some ad9,c9,L9,decide (mkS w3=mkS offW)⟩],rsF R] k->Un [srowF (some ad9) L9 c9,browF z_ab uh.A uh.x uh.c,browF z_ab us.A us.x us.c,browF z_ab ub.A ub.x ub.c,browF z_ab ua.A ua.x ua.c,rsF R] k:=by
     rintro k ⟨f,hf,hk⟩
     rcases List.mem_cons.1 hf with rfl | hf
     ·obtain ⟨f2,hf2,hk2⟩:=hs1.bsCsU (c:=⟨0,mkS t,mkS nm,⟨⟨ua.A,ua.c,ua.x,hok.ac⟩,(rn:Int),⟨ub.A,ub.c,ub.x,hok.bc⟩,⟨us.A,us.c,us.x,hok.sc⟩,⟨uh.A,uh.c,uh.x,hok.hc⟩⟩,gn,some ad9,c9,L9,decide (mkS w3=mkS offW)⟩) [0,1,2,3,4] rfl rfl k hk
      exact ⟨f2,List.mem_append_left [rsF R] hf2,hk2⟩
     ·obtain rfl:=List.mem_singleton.1 hf
      exact ⟨rsF R,by simp,hk⟩
    have hs2:=(hs1.bsCs (c:=⟨0,mkS t,mkS nm,⟨⟨ua.A,ua.c,ua.x,hok.ac⟩,(rn:Int),⟨ub.A,ub.c,ub.x,hok.bc⟩,⟨us.A,us.c,us.x,hok.sc⟩,⟨uh.A,uh.c,uh.x,hok.hc⟩⟩,gn,some ad9,c9,L9,decide (mkS w3=mkS offW)⟩) [0,1,2,3,4] rfl).perm [0,2]
    have h:=z_pe R ⟨0,mkS t,mkS nm,⟨⟨ua.A,ua.c,ua.x,hok.ac⟩,(rn:Int),⟨ub.A,ub.c,ub.x,hok.bc⟩,⟨us.A,us.c,us.x,hok.sc⟩,⟨uh.A,uh.c,uh.x,hok.hc⟩⟩,gn,some ad9,c9,L9,decide (mkS w3=mkS offW)⟩ hs2 hc9 hw (by show t.length<=_;omega) hcz.u hcz.r hcz.n
    rw [hb,hr] at h
    exact h.gs hU2) ?_ ⟨rfl,rfl,rfl,rfl,rfl,rfl,trivial⟩
   rintro v Fs ⟨R2,rfl,k2,k3,k4,k5,k6,k7,rfl⟩
   simp only at k2
   refine BIf.not (BIf.dec (fun h4=>?_) (fun h4=>?_))
   rotate_left
   ·have h40: ¬rc=0:=h4
    intro β w' hs
    refine (hs.keepB (List.nil_sublist _)).fin [] (.inr ⟨hstop fun m q=>?_,rfl,rfl⟩)
    rcases hstU m q with ⟨ht0,c,hp,hl⟩
    obtain rfl:=Par.one z_mh hp hpar
    rw [hr] at hl
    injection hl with q4 _
    exact h40 q4
   have h40:rc=0:=h4
   subst h40
   refine ⟨((i+1:Nat):Int),by rw [wrap_i64 (by omega) (by omega)];rfl,?_⟩
   have hj2:=(hX.load (Crd.a ⟨0,mkS t,mkS nm,⟨⟨ua.A,ua.c,ua.x,hok.ac⟩,(rn:Int),⟨ub.A,ub.c,ub.x,hok.bc⟩,⟨us.A,us.c,us.x,hok.sc⟩,⟨uh.A,uh.c,uh.x,hok.hc⟩⟩,gn,some ad9,c9,L9,decide (mkS w3=mkS offW)⟩)).2
   rw [hr] at hj2
   exact ⟨⟨i+1,R2,t⟩,hgo R2 t ((hst _).2 (.inr (.inr ⟨by omega,by simp,ht00,⟨_,hpar,by rw [k2];exact hr⟩,rfl⟩))) ⟨_,by rw [k2];exact hj2⟩ k3 k4 k5 k6 ht,by show L.length - (i+1)<L.length - i;omega,Ent.mk' ⟨rfl,rfl,rfl,rfl,rfl,rfl,rfl,trivial⟩ rfl (fun β w' hs=>((hs.keepB (List.nil_sublist _)).perm [0,2,3]).lower)⟩
 ·have hge0: ¬(i:Int)<L.length:=hge
  rw [List.take_of_length_le (by omega)] at hrun
  have hp:RPl R.a:=Run.inv (fun a=>RPl a.Y) RPl.step _ 0 gs0 _ ⟨fun _ h=>(by cases h),fun _ h=>(by cases h)⟩ hrun
  obtain ⟨D,hD⟩: ∃D,dumpR R.a=D:=⟨_,rfl⟩
  refine z_an g ?_
  refine z_af (v:= .string (mkS D)) (fun β w' hs=>by
   have h:=z_vc w' R hX hp hw ((hs.asRo 0 rfl).mem.take (js:=[0,2]) rfl)
   rw [hD,hb] at h
   exact h) ?_
  refine BIf.not (BIf.dec (fun h6=>?_) (fun h6=>?_))
  ·have h60:D=T:=mkS1 h6
   refine z_an g ?_
   refine z_fI g ?_
   intro β w' hs
   exact (hs.keepB (List.nil_sublist _)).fin [0] (.inl ⟨R,⟨_,(hOk2 _).2 ⟨hrun,hD.trans h60⟩⟩,by rw [hb];rfl,rfl⟩)
  ·have h60: ¬D=T:=fun e=>h6 (congrArg mkS e)
   intro β w' hs
   refine (hs.keepB (List.nil_sublist _)).fin [] (.inr ⟨fun y hy=>?_,rfl,rfl⟩)
   obtain ⟨k1,k2⟩:=(hOk2 y).1 hy
   obtain rfl:=Run.one StepR.one _ 0 _ _ _ hrun k1
   exact h60 (hD.symm.trans k2)
theorem suf10 (l:List UInt8):Lib.hasSuffix l [10]=true↔l.getLast?=some 10:=by
 unfold Lib.hasSuffix
 rw [List.isSuffixOf_iff_suffix]
 constructor
 ·rintro ⟨t,rfl⟩
  simp
 ·intro h
  have hne:l≠[]:=fun e=>by rw [e] at h;cases h
  refine ⟨l.dropLast,?_⟩
  have:=List.dropLast_concat_getLast hne
  rw [List.getLast?_eq_some_getLast hne] at h
  rw [Option.some.inj h] at this
  exact this
theorem z_pw (l:List UInt8):Lib.hasPrefix l sumW=true↔l.take 4=sumW:=by
 unfold Lib.hasPrefix
 rw [List.isPrefixOf_iff_prefix,List.prefix_iff_eq_take]
 exact ⟨fun h=>h.symm,fun h=>h.symm⟩
theorem z_u6 {T:List UInt8} {k:Nat} (hk:T.length=k+69):Shp T↔((T.drop k).take 4=sumW/\T[k+68]?=some 10/\(k=0\/T[k - 1]?=some 10)/\ ∃l,unhexA ((T.take (k+68)).drop (k+4))=some l):=by
 have hs:sealT T=T.drop k:=by unfold sealT;rw [hk];rfl
 have hb:bodyT T=T.take k:=by unfold bodyT;rw [hk];rfl
 have hd:(T.drop k).drop 4=T.drop (k+4):=by rw [List.drop_drop]
 have hlast:(T.drop (k+4)).getLast?=some 10↔T[k+68]?=some 10:=by
  rw [List.getLast?_eq_getElem?,List.getElem?_drop,List.length_drop,hk]
  rw [show k+4+(k+69 - (k+4) - 1)=k+68 by omega]
 have hbody:(T.take k=[]\/Lib.hasSuffix (T.take k) [10]=true)↔(k=0\/T[k - 1]?=some 10):=by
  rw [suf10,List.getLast?_eq_getElem?,List.length_take,hk,Nat.min_eq_left (by omega)]
  have hn:T.take k=[]↔k=0:=by
   constructor
   ·intro h
    have:=congrArg List.length h
    rw [List.length_take] at this
    simp only [List.length_nil] at this
    omega
   ·rintro rfl;rfl
  rw [hn]
  by_cases h0:k=0
  ·simp [h0]
  ·rw [List.getElem?_take,if_pos (by omega)]
 have hun: ∀(_:Lib.hasPrefix (sealT T) sumW=true) (_:T[k+68]?=some 10),Lib.trimSuffix (Lib.trimPrefix (sealT T) sumW) [10]=(T.take (k+68)).drop (k+4):=fun h1 h2=>by
  unfold Lib.trimPrefix
  rw [if_pos h1,hs]
  show Lib.trimSuffix ((T.drop k).drop 4) [10]=_
  rw [hd]
  unfold Lib.trimSuffix
  rw [if_pos ((suf10 _).2 (hlast.2 h2)),List.length_drop,hk,List.drop_take]
  congr 1
  show k+69 - (k+4) - 1=k+68 - (k+4)
  omega
 have htp:Lib.hasPrefix (sealT T) sumW=true->Lib.trimPrefix (sealT T) sumW=T.drop (k+4):=fun h1=>by
  unfold Lib.trimPrefix
  rw [if_pos h1,hs]
  exact hd
 constructor
 ·intro h
  have h2:T[k+68]?=some 10:=by
   have:=h.s
   rw [htp h.p,suf10] at this
   exact hlast.1 this
  refine ⟨by rw [<-hs];exact (z_pw _).1 h.p,h2,?_,?_⟩
  ·have:=h.b
   rw [hb] at this
   exact hbody.1 this
  ·have:=h.u
   rw [hun h.p h2] at this
   exact this
 ·rintro ⟨h1,h2,h3,h4⟩
  have hp:Lib.hasPrefix (sealT T) sumW=true:=(z_pw _).2 (by rw [hs];exact h1)
  refine ⟨hp,by rw [hun hp h2];exact h4,by rw [htp hp,suf10];exact hlast.2 h2,by rw [hb];exact hbody.2 h3⟩
theorem z_uf (b:List UInt8):lnL (sumL b)=[sumW++hexB (Sha.sum b)]:=by
 have h:sumL b=(sumW++hexB (Sha.sum b))++10::[]:=rfl
 rw [h,z_qD]
 ·rfl
 ·intro q
  rcases List.mem_append.1 q with q | q
  ·exact absurd q (by decide)
  ·exact z_oa 10 (by decide) _ q
theorem okT_R {T:List UInt8} (hS:Shp T) (hs:sumL (bodyT T)=sealT T):(∃y,OkT T y)↔OkR (bodyT T):=by
 have hbs:=z_ij T
 have hbe:bodyT T=[]\/(bodyT T).getLast?=some 10:=hS.b.imp id (suf10 _).1
 obtain ⟨c1,c2⟩:=z_qv _ (bodyT T) (Nat.le_refl _) hbe
 have hL:lnL T=lnL (bodyT T)++[sumW++hexB (Sha.sum (bodyT T))]:=by
  conv=>lhs;rw [<-hbs,<-hs,<-c1]
  rw [z_oH _ _ c2,c1,z_uf]
 have hd: ∀Y:RA,dumpR Y=T↔catL (bodyR Y)=bodyT T:=fun Y=>by
  unfold dumpR
  constructor
  ·intro h
   rw [<-hbs,<-hs] at h
   exact (List.append_inj' h (by rw [z_ct,z_ct])).1
  ·intro h
   rw [h,hs,hbs]
 have hne: ∀Y:RA,catL (bodyR Y)≠[]:=fun Y h=>by
  unfold bodyR at h
  rw [z_dQ] at h
  have:=congrArg List.length h
  simp at this
 unfold OkT OkR
 rw [hL,List.length_append,List.length_singleton]
 rw [show (lnL (bodyT T)++[sumW++hexB (Sha.sum (bodyT T))]).take ((lnL (bodyT T)).length+1 - 1)=lnL (bodyT T) by rw [Nat.add_sub_cancel,List.take_left]]
 constructor
 ·rintro ⟨y,_,h2,h3⟩
  exact ⟨y,h2,(hd _).1 h3⟩
 ·rintro ⟨y,h2,h3⟩
  refine ⟨y,?_,h2,(hd _).2 h3⟩
  have:lnL (bodyT T)≠[]:=fun e=>by
   rw [e] at c1
   exact hne y.Y (h3.trans c1.symm)
  have:=List.length_pos_iff.2 this
  omega
set_option maxHeartbeats 1000000 in
theorem z_q9 (w:World) (T:List UInt8) (hT:T.length<=99999) (hm:Mem w [oddF 1]):Con Tryz.prog z_dI #[.string (mkS T)] w [] (fun v Fs=>(∃e:Int,CodeT OkR T e/\v= .int .i64 e)/\Fs=[]):=by
 have g:=z_f2 w (Un [])
 have hml:=z_ag
 have hsz:(mkS T).size=T.length:=rfl
 refine z_lS (cx:=z_c7 w (Un [])) g z_h6 [.c (.v (.string (mkS T)))] [oddF 1] hm ?_
 refine z_an g ?_
 refine z_an g ?_
 refine BIf.dec (fun q=>absurd (show (262144:Int)<(T.length:Int) from q) (by omega)) (fun _=>?_)
 refine z_an g ?_
 obtain ⟨kk,hkk⟩: ∃kk:Int,IntKind.i64.wrap ((T.length:Int) - 69)=kk:=⟨_,rfl⟩
 refine ⟨kk,hkk,?_⟩
 rw [wrap_i64 (by omega) (by omega)] at hkk
 by_cases h69:T.length<69
 ·refine z_an g ?_
  refine BIf.dec (fun _=>?_) (fun q=>absurd (show kk<0 by omega) q)
  intro β w' hs
  exact hs.fin [] ⟨⟨4,.inr ⟨by omega,.inl ⟨h69,rfl⟩⟩,rfl⟩,rfl⟩
 obtain ⟨k,hk⟩: ∃k,T.length=k+69:=⟨T.length - 69,by omega⟩
 have hkc:kk=(k:Int):=by omega
 have hsh:=z_u6 hk
 have hbT:bodyT T=T.take k:=by unfold bodyT;rw [hk];rfl
 have hsT:sealT T=T.drop k:=by unfold sealT;rw [hk];rfl
 have hno: ¬Shp T->CodeT OkR T 4:=fun h=> .inr ⟨by omega,.inr ⟨by omega,.inl ⟨h,rfl⟩⟩⟩
 refine z_b3 (ι:=Unit) g (fun _=>(T.drop k).take 4=sumW/\T[k+68]?=some 10/\(k=0\/T[k - 1]?=some 10)) 0 (fun _=>[(0,.c (.v (.string (mkS T)))),(2,.c (.v (.int .i64 0))),(3,.c (.v (.int .i64 kk)))]) (fun _=>[]) (fun _=>[oddF 1]) ?_ ?_
 rotate_left
 ·refine BIf.dec (fun q=>absurd (show kk<0 from q) (by omega)) (fun _=>?_)
  refine ⟨((k+4:Nat):Int),by rw [wrap_i64 (by omega) (by omega)];omega,?_⟩
  refine ⟨k+4,k,rfl,hkc,by rw [hsz];omega,by omega,?_⟩
  have x1:(mkS T).extract k (k+4)=mkS ((T.drop k).take 4):=by
   rw [z_dL _ k (k+4) (by omega),List.drop_take,Nat.add_sub_cancel_left]
  rw [x1]
  refine BIf.not (BIf.dec (fun h1=>?_) (fun h1=>?_))
  rotate_left
  ·have h10: ¬(T.drop k).take 4=sumW:=fun e=>h1 (congrArg mkS e)
   intro β w' hs
   exact hs.fin [] ⟨⟨4,hno (fun h=>h10 (hsh.1 h).1),rfl⟩,rfl⟩
  have h10:(T.drop k).take 4=sumW:=mkS1 h1
  obtain ⟨y,hy⟩: ∃y,T[k+68]?=some y:=⟨_,List.getElem?_eq_getElem (by omega)⟩
  refine ⟨((k+68:Nat):Int),by rw [hsz,wrap_i64 (by omega) (by omega)];omega,?_⟩
  refine ⟨k+68,y,rfl,by rw [mkSo];exact hy,?_⟩
  refine BIf.not (BIf.dec (fun h2=>?_) (fun h2=>?_))
  rotate_left
  ·have h20: ¬(y.toNat:Int)=10:=h2
   intro β w' hs
   refine hs.fin [] ⟨⟨4,hno (fun h=>?_),rfl⟩,rfl⟩
   have:=(hsh.1 h).2.1
   rw [hy] at this
   obtain rfl:=Option.some.inj this
   exact h20 rfl
  have h20:(y.toNat:Int)=10:=h2
  obtain rfl:y=10:=UInt8.toNat_inj.1 (by show y.toNat=10;omega)
  refine BIf.dec (fun h3=>?_) (fun h3=>?_)
  ·have h30:(0:Int)<kk:=h3
   obtain ⟨z,hz⟩: ∃z,T[k - 1]?=some z:=⟨_,List.getElem?_eq_getElem (by omega)⟩
   refine ⟨((k - 1:Nat):Int),by rw [wrap_i64 (by omega) (by omega)];omega,?_⟩
   refine ⟨k - 1,z,rfl,by rw [mkSo];exact hz,?_⟩
   refine BIf.not (BIf.dec (fun h4=>?_) (fun h4=>?_))
   rotate_left
   ·have h40: ¬(z.toNat:Int)=10:=h4
    intro β w' hs
    refine hs.fin [] ⟨⟨4,hno (fun h=>?_),rfl⟩,rfl⟩
    rcases (hsh.1 h).2.2.1 with q | q
    ·omega
    ·rw [hz] at q
     obtain rfl:=Option.some.inj q
     exact h40 rfl
   have h40:(z.toNat:Int)=10:=h4
   obtain rfl:z=10:=UInt8.toNat_inj.1 (by show z.toNat=10;omega)
   exact EntX.of () ⟨h10,hy,.inr hz⟩ (Ent.mk' ⟨rfl,rfl,rfl,trivial⟩ rfl (fun β w' hs=>hs))
  ·have h30: ¬(0:Int)<kk:=h3
   exact EntX.of () ⟨h10,hy,.inl (by omega)⟩ (Ent.mk' ⟨rfl,rfl,rfl,trivial⟩ rfl (fun β w' hs=>hs))
 rintro _ ⟨q1,q2,q3⟩
 obtain ⟨U,hU⟩: ∃U,(T.take (k+68)).drop (k+4)=U:=⟨_,rfl⟩
 have hUl:U.length<=100:=by rw [<-hU,List.length_drop,List.length_take];omega
 rw [hU] at hsh
 refine z_an g ?_
 refine ⟨((k+4:Nat):Int),by rw [wrap_i64 (by omega) (by omega)];omega,?_⟩
 refine ⟨((k+68:Nat):Int),by rw [hsz,wrap_i64 (by omega) (by omega)];omega,?_⟩
 refine ⟨k+68,k+4,rfl,rfl,by rw [hsz];omega,by omega,?_⟩
 have x2:(mkS T).extract (k+4) (k+68)=mkS U:=by rw [z_dL _ _ _ (by omega),hU]
 rw [x2]
 refine z_ac [] (fun β w' hs=>z_pn w' U (by omega)) ?_
 rintro v Fs ⟨A1,nm,c1,e,rfl,hnm,hc1,rfl⟩
 refine BIf.not (BIf.dec (fun he=>?_) (fun he=>?_))
 rotate_left
 ·have he0: ¬e=0:=he
  intro β w' hs
  refine hs.fin [] ⟨⟨4,hno (fun h=>?_),rfl⟩,rfl⟩
  obtain ⟨l,hl⟩:=(hsh.1 h).2.2.2
  rcases hnm with ⟨q,_⟩ | ⟨_,q⟩
  ·exact he0 q
  ·rw [hl] at q;cases q
 have he0:e=0:=he
 have hS:Shp T:=hsh.2 ⟨q1,q2,q3,by
  rcases hnm with ⟨_,q⟩ | ⟨q,_⟩
  ·exact ⟨_,q⟩
  ·exact absurd he0 q⟩
 have hbl:(bodyT T).length<=99999:=by rw [hbT,List.length_take];omega
 refine z_an g ?_
 refine ⟨k,0,hkc,rfl,by rw [hsz];omega,Nat.zero_le _,?_⟩
 have x3:(mkS T).extract 0 k=mkS (bodyT T):=by rw [z_dL _ _ _ (by omega),List.drop_zero,hbT]
 rw [x3]
 refine z_af (v:= .string (mkS (bodyT T++sumL (bodyT T)))) (fun β w' hs=>z_i7 w' (bodyT T) (by omega) (hs.get 1 rfl)) ?_
 refine BIf.not (BIf.dec (fun h5=>?_) (fun h5=>?_))
 rotate_left
 ·have h50: ¬bodyT T++sumL (bodyT T)=T:=fun e=>h5 (congrArg mkS e)
  intro β w' hs
  refine hs.fin [] ⟨⟨13,.inr ⟨by omega,.inr ⟨by omega,.inr ⟨hS,.inl ⟨fun e=>h50 ?_,rfl⟩⟩⟩⟩,rfl⟩,rfl⟩
  rw [e,z_ij]
 have h50:bodyT T++sumL (bodyT T)=T:=mkS1 h5
 have hsum:sumL (bodyT T)=sealT T:=List.append_cancel_left (h50.trans (z_ij T).symm)
 have hok:=okT_R hS hsum
 refine z_an g ?_
 refine z_ac [] (fun β w' hs=>z_sp w' T hT (hs.mem.take (js:=[1]) rfl)) ?_
 rintro v Fs (⟨R,hy,rfl,rfl⟩ | ⟨hy,rfl,rfl⟩)
 ·refine z_an g ?_
  refine z_fI g ?_
  intro β w' hs
  exact (hs.keepB (List.nil_sublist _)).fin [] ⟨⟨0,.inr ⟨by omega,.inr ⟨by omega,.inr ⟨hS,.inr ⟨hsum,.inr ⟨hok.1 hy,rfl⟩⟩⟩⟩⟩,rfl⟩,rfl⟩
 ·intro β w' hs
  exact (hs.keepB (List.nil_sublist _)).fin [] ⟨⟨4,.inr ⟨by omega,.inr ⟨by omega,.inr ⟨hS,.inr ⟨hsum,.inl ⟨fun h=>(hok.2 h).elim hy,rfl⟩⟩⟩⟩⟩,rfl⟩,rfl⟩
theorem z_qc (w:World) (s:ByteArray) (k:Nat) (_hk:k<=1000000):Pu Tryz.prog z_ci #[.string s,.int .i64 k] w (.string (mkS (s.data.toList.take k))):=by
 refine pu_of (z_aL (cx:=z_b0 w None_) (z_ew w None_) z_fS rfl rfl (β:=Va.z) [.c (.v (.string s)),.c (.v (.int .i64 k))] 0 [] [] rfl rfl (Sat.start rfl) ?_)
 refine ⟨((min s.size k:Nat):Int),by dsimp only;omega,?_⟩
 refine ⟨min s.size k,0,rfl,rfl,by omega,Nat.zero_le _,?_⟩
 intro β w' hs
 refine ⟨?_,hs.chg⟩
 have e:s.data.toList.take k=s.data.toList.take (min s.size k):=by
  rw [List.take_eq_take_min,show s.data.toList.length=s.size from rfl,Nat.min_comm]
 rw [e,<-z_m3,z_tM]
 rfl
abbrev rollTabs:List Fact:=[oddF 2,firstF 0,mlF,errF 5,errF 6,powF,namF,oddF 1]
theorem z_qq:Reads rollTabs:=⟨rfl,rfl,rfl,rfl,rfl,rfl,rfl,rfl,trivial⟩
set_option maxHeartbeats 1000000 in
theorem rollLoadsL_c (w:World) (s:ByteArray) (sealed:Bool) (hm:Mem w rollTabs):Con Tryz.prog z_bS #[.string s,.bool sealed] w [] fun v Fs=>v= .bool true/\Fs=[]:=by
 have g:=z_dS w (Un [])
 refine z_lS (cx:=z_bF w (Un [])) g z_eG [.c (.v (.string s)),.c (.v (.bool sealed))] rollTabs hm ?_ z_qq
 refine z_an g ?_
 refine z_an g ?_
 refine z_af (fun β w' hs=>z_rp w' (hs.mem.take (js:=[0,1,2,7]) rfl)) ?_
 refine z_an g ?_
 refine z_af (fun β w' hs=>z_qc w' s 3000 (by decide)) ?_
 have hl:(s.data.toList.take 3000).length<=3000:=by rw [List.length_take];omega
 generalize s.data.toList.take 3000=t at hl ⊢
 refine z_b3 (ι:=List UInt8) g (fun T=>T.length<=99999) 0 (fun T=>[(0,.c (.v (.string (mkS T))))]) (fun _=>[]) (fun _=>rollTabs) ?_ ?_
 rotate_left
 ·cases sealed with
  | true=>
   refine z_af (v:= .string (mkS (t++sumL t))) (fun β w' hs=>z_i7 w' t (by omega) (hs.get 7 rfl)) ?_
   exact EntX.of (t++sumL t) (by rw [List.length_append,z_ct];omega) (Ent.mk' ⟨rfl,trivial⟩ rfl (fun β w' hs=>hs))
  | false=>
   exact EntX.of t (by omega) (Ent.mk' ⟨rfl,trivial⟩ rfl (fun β w' hs=>hs))
 intro T hT
 refine z_an g ?_
 refine z_ac [] (fun β w' hs=>z_pK w' T (by omega) (hs.mem.take (js:=[0,1,2,3,4,5,6]) rfl)) ?_
 rintro v Fs ⟨e,hce,⟨he0,rfl,rfl⟩ | ⟨he0,S,Y,hj,hp,hd,rfl,rfl⟩⟩
 ·refine z_an g ?_
  refine z_ac [] (fun β w' hs=>z_q9 w' T hT (hs.mem.take (js:=[7]) rfl)) ?_
  rintro v Fs ⟨⟨e',hce',rfl⟩,rfl⟩
  obtain rfl:=z_o7 ok_ok hce hce'
  refine BIf.not (BIf.dec (fun _=>?_) (fun h=>absurd (show e=e by omega) h))
  refine BIf.no (by rw [decide_eq_false he0];rfl) ?_
  refine z_an g ?_
  refine BIf.not (BIf.dec (fun h=>absurd h he0) (fun _=>?_))
  refine z_fI g ?_
  intro β w' hs
  exact hs.fin [] ⟨rfl,rfl⟩
 ·subst he0
  refine z_an g ?_
  refine z_ac [] (fun β w' hs=>z_q9 w' T hT (hs.mem.take (js:=[8]) rfl)) ?_
  rintro v Fs ⟨⟨e',hce',rfl⟩,rfl⟩
  obtain rfl:=z_o7 ok_ok hce hce'
  refine z_an g ?_
  refine z_ac [] (R:=fun v Fs=>v= .string (mkS T)/\Fs=[]) (fun β w' hs=>by
   have h:=z_rN w' S hj hp ((hs.asRo 0 rfl).mem.take (js:=[0,1,2,6]) rfl)
   rw [hd] at h
   exact h) ?_
  rintro v Fs ⟨rfl,rfl⟩
  refine z_fI g ?_
  intro β w' hs
  refine (hs.keepB (List.nil_sublist _)).fin [] ⟨?_,rfl⟩
  show Value.bool (decide (mkS T=mkS T))=_
  rw [decide_eq_true rfl]
end Go.Proofs.YtloeaiafphkjnaaGreatDoor.Sx
namespace Go.Proofs.YtloeaiafphkjnaaGreatDoor.Sx
open Go
def RoOk (w:World) (f:Fact):Prop:=f.own=false/\f.p w/\ ∀k,f.D k->k<w.heap.size
theorem mem_ro {w:World} {Fs:List Fact} (h: ∀f∈Fs,RoOk w f):Mem w Fs:=by
 refine ⟨fun f hf=>(h f hf).2.1,fun f hf k hk=>(h f hf).2.2 k hk,?_⟩
 induction Fs with
 | nil=>exact List.Pairwise.nil
 | cons f r ih=>
  refine List.pairwise_cons.2 ⟨fun g hg q=>?_,ih (fun g hg=>h g (List.mem_cons_of_mem _ hg))⟩
  rcases q with q | q
  ·rw [(h f List.mem_cons_self).1] at q;cases q
  ·rw [(h g (List.mem_cons_of_mem _ hg)).1] at q;cases q
theorem rd_ok {w:World} {size:Nat} {A:Option Addr} {k:Nat} {xs:List Value} (h:Rd size A k xs w):RoOk w (rdF size A k xs):=⟨rfl,h,rd_lt h⟩
theorem ro_nil {w:World}: ∀f∈([]:List Fact),RoOk w f:=fun f h=>by cases h
theorem ro_cons {w:World} {f:Fact} {r:List Fact} (h1:RoOk w f) (h2: ∀g∈r,RoOk w g): ∀g∈f::r,RoOk w g:=fun g hg=>by
 rcases List.mem_cons.1 hg with rfl | hg
 ·exact h1
 ·exact h2 g hg
theorem nam_ok {w:World} (f:Forms 10 w) (s5:(spansF 8 blanksL).p w) (s6:(spansF 9 nothingL).p w) (s4:(spansF 4 barredL).p w):RoOk w namF:=by
 refine ⟨rfl,fun g hg=>?_,fun k hk=>?_⟩
 ·simp only [List.mem_cons,List.not_mem_nil,or_false] at hg
  rcases hg with rfl | rfl | rfl | rfl
  ·exact f
  ·exact s5
  ·exact s6
  ·exact s4
 ·obtain ⟨g,hg,hk⟩:=hk
  simp only [List.mem_cons,List.not_mem_nil,or_false] at hg
  rcases hg with rfl | rfl | rfl | rfl
  ·exact rd_lt f k hk
  ·exact rd_lt s5 k hk
  ·exact rd_lt s6 k hk
  ·exact rd_lt s4 k hk
end Go.Proofs.YtloeaiafphkjnaaGreatDoor.Sx
namespace Go.Proofs.YtloeaiafphkjnaaGreatDoor.Sx
open Go
section
variable {H:Type} {enc:TypeId×Value->H} {w:World} {base:Nat} {sp:Nat->Bool} {held:Bool}
theorem pow_of {m n:Nat} {t e:TypeId} {cs:Array Value} {d:DataW H} {q:List MemPlace} (ht:Tryz.prog.underlying t=some (.array n e)) (he:Tryz.prog.underlying e=some (.int .u64)) (hce:Tryz.prog.cellsOf e=1) (hct:Tryz.prog.cellsOf t=n) (hdd:d=Lib.tabData .u64 Lib.pow10Tab)
  (hd : DataW.trod enc Tryz.prog w base sp held m t cs.toList = some (d, q)) (hv : w.var? Tryz.prog "internal/strconv.uint64pow10" = some cs) : powF.p w := by
 subst hdd
 show Lib.TabIs _ _ _ _ _
 unfold Lib.TabIs
 rw [hv,<-Lib.cells_of_tab ht he hce hct hd]
theorem err_of {P:Program} {m g:Nat} {t:TypeId} {cs:Array Value} {s:String} {d:DataW H} {q:List MemPlace} (hi:isIf (P.underlying t)=true)
  (hd:DataW.trod enc P w base sp held m t cs.toList=some (.iface s d,q)) (hcell: ∀j,w.cell? ⟨g,j,none⟩=cs[j]?):(errF g).p w:=by
 obtain ⟨ms,hms⟩: ∃ms,P.underlying t=some (.interface ms):=by
  unfold isIf at hi
  split at hi
  ·rename_i ms h;exact ⟨ms,h⟩
  ·cases hi
 cases m with
 | zero=>simp [DataW.trod] at hd
 | succ m=>
  have h0:w.cell? ⟨g,0,none⟩=cs.toList[0]?:=by rw [hcell 0,Array.getElem?_toList]
  generalize cs.toList=l at hd h0
  match l,hd,h0 with
  | [],hd,_=>simp [DataW.trod,hms] at hd
  | [v],hd,h0=>
   have h1:w.cell? ⟨g,0,none⟩=some v:=h0
   cases v with
   | nilIface=>exact ⟨_,h1,.inl rfl⟩
   | iface u x=>exact ⟨_,h1,.inr ⟨u,x,rfl⟩⟩
   | _=>simp [DataW.trod,hms] at hd
  | a::b::r,hd,_=>simp [DataW.trod,hms] at hd
end
theorem pow_ok {w:World} (h:powF.p w):RoOk w powF:=⟨rfl,h,fun k hk=>(z_fb h).flt powF (by simp) k hk⟩
theorem err_ok {w:World} {g:Nat} (h:(errF g).p w):RoOk w (errF g):=by
 refine ⟨rfl,h,fun k hk=>?_⟩
 obtain ⟨ev,hm,_⟩:=h
 obtain rfl:k=g:=hk
 unfold World.cell? at hm
 rcases Nat.lt_or_ge k w.heap.size with q | q
 ·exact q
 ·rw [Array.getElem?_eq_none q] at hm
  cases hm
end Go.Proofs.YtloeaiafphkjnaaGreatDoor.Sx
namespace Go.Proofs.YtloeaiafphkjnaaGreatDoor.Sx
open Go
theorem handed_shaped {H:Type} {enc:TypeId×Value->H} {a:Assume} {C:Checked} {os:Os} {f:FuncId} {fn:Func} {s:ChangeSpec} {conds:List PathCond} {apart fresh handsOn again:Bool} {X:World->Array Value->Prop}
  (hX: ∀(w w':World) (args:Array Value),w.heap=w'.heap->X w args->X w' args)
  (own:ownKnob C.prog.godebug=none) (started:os.Started) (noInit:C.prog.inits.idxOf? f=none) (hfn:C.prog.funcs[f]?=some fn)
  (witness: ∃(w:World) (tape:Tape) (i:Input),w.os=os/\(w.forCall tape i).Shaped C.prog/\i.vars=[]/\Input.okWide C.prog (w.forCall tape i) .any w.heap.size f i/\
   ((s.pre enc C.prog fn conds apart (w.forCall tape i).memory i.args/\X (w.forCall tape i).memory i.args)/\sizedMet enc C.prog fn (OpenSpec.ofChange s) apart (w.forCall tape i).memory i.args)/\a.holds C.prog (lone (Frame.enter C.prog f i.args .normal) [] (w.forCall tape i)))
  (key: ∀(W:World) (base:Nat) (args:Array Value) (ds gs:List (DataW H)) (before:List MemPlace),
   (∀(j:Nat) t v,fn.params[j]?=some t->args[j]?=some v->Value.okWide C.prog W .any base t v)->
   DataW.Whole enc C.prog fn.params.toList s.vars apart W args.toList ds gs before->X W args->W.ShapedOpen C.prog->
   Calls C.prog f args W fun e W'=> ∃v,e= .returned v/\s.post enc C.prog fn apart fresh handsOn again W args v W'):
  ReturnsInHanded a C os f .any (fun w args=>(s.pre enc C.prog fn conds apart w args/\X w args)/\sizedMet enc C.prog fn (OpenSpec.ofChange s) apart w args) (s.post enc C.prog fn apart fresh handsOn again):=by
 refine returnsInHanded_of_calls own started noInit witness (fun w tape i _ hshape _ hin hp _=>?_)
 obtain ⟨_,_,_,fn2,hfn2,_,_,_,_,hvals⟩:=hin
 obtain rfl:fn2=fn:=Option.some.inj (hfn2.symm.trans hfn)
 obtain ⟨⟨⟨ds,gs,before,hwh,_⟩,hx⟩,_⟩:=hp
 refine (key (w.forCall tape i) w.heap.size i.args ds gs before hvals (DataW.Whole.of_heap (w':=w.forCall tape i) (by rfl) hwh) (hX _ _ _ (by rfl) hx) hshape).mono fun e W' ⟨v,he,hq⟩=>?_
 subst he
 exact ChangeSpec.post_blind hq
theorem ml_of {w:World} (h:w.ShapedOpen Tryz.prog):mlF.p w:=
 cell_of_shapedOpen_int (P:=Tryz.prog) (g:=3) (t:=z_ge) (zero:= #[.int .i64 0]) h (of_decide_eq_true (by kernel_rfl)) (by kernel_rfl) rfl (by kernel_rfl) (by kernel_rfl) (ok3.real (d:= .int .i64) rfl rfl)
theorem ml_ok {w:World} (h:mlF.p w):RoOk w mlF:=by
 refine ⟨rfl,h,fun k hk=>?_⟩
 obtain ⟨m,hm⟩:=h
 obtain rfl:k=3:=hk
 unfold World.cell? at hm
 rcases Nat.lt_or_ge 3 w.heap.size with q | q
 ·exact q
 ·simp [Array.getElem?_eq_none q] at hm
end Go.Proofs.YtloeaiafphkjnaaGreatDoor.Sx
namespace Go.Proofs.YtloeaiafphkjnaaGreatDoor.Sx
open Go Go.RowKit
theorem below_of {w w':World} (h:Chg None_ w w'):Below w.heap.size w w':=
 ⟨h.os,h.tape,h.output,h.size,fun k hk=>h.same k hk (fun q=>q)⟩
end Go.Proofs.YtloeaiafphkjnaaGreatDoor.Sx
namespace Go.Proofs.YtloeaiafphkjnaaGreatDoor.Sx
open Go
theorem rd_of_ints {H:Type} {enc:TypeId×Value->H} {P:Program} {W:World} {base:Nat} {sp:Nat->Bool} {held:Bool} {fuel g n:Nat} {t e:TypeId} {k:IntKind} {cs:Array Value} {zs:List Int} {q:List MemPlace}
  (ht:P.underlying t=some (.array n e)) (he:P.underlying e=some (.int k)) (hc:P.cellsOf e=1) (hd:DataW.trod enc P W base sp held fuel t cs.toList=some (.agg (zs.map fun z=> .lit (.int k z)),q)) (hcell: ∀j,W.cell? ⟨g,j,none⟩=cs[j]?):
  Rd 1 (some ⟨g,0,none⟩) zs.length (zs.map (Value.int k)) W:=by
 obtain ⟨xs,m,_,hx,hlen,hn,hel⟩:=DataW.trod_array ht hd
 simp only [Prod.mk.injEq,DataW.agg.injEq] at hx
 have hzn:zs.length=n:=by
  have h9:=congrArg List.length hx.1
  simp only [List.length_map] at h9
  omega
 refine ⟨by simp,fun hp=>⟨_,rfl,fun j u hu=>?_⟩⟩
 rw [List.getElem?_map] at hu
 obtain ⟨z,hz,rfl⟩:=Option.map_eq_some_iff.1 hu
 have hj:j<zs.length:=(List.getElem?_eq_some_iff.1 hz).1
 have h1:=hel j (by omega)
 have h2:(xs.map (·.1))[j]?=some (.lit (.int k z)):=by rw [<-hx.1,List.getElem?_map,hz];rfl
 rw [List.getElem?_map] at h2
 obtain ⟨x,hxj,hx1⟩:=Option.map_eq_some_iff.1 h2
 rw [hxj,hc,Nat.mul_one] at h1
 obtain ⟨y,e1,e2,_⟩:=DataW.trod_int he h1
 have hy:y=z:=by
  rw [e2] at hx1
  simpa using hx1
 subst hy
 rw [z_bJ,Nat.zero_add,hcell j,<-Array.getElem?_toList]
 have h3:=congrArg (fun l=>l[0]?) e1
 simpa [List.getElem?_drop] using h3
abbrev u32s (l:List UInt32):List Int:=l.map fun x=>(x.toNat:Int)
theorem rd_u32 {g:Nat} {W:World} {l:List UInt32} (h:Rd 1 (some ⟨g,0,none⟩) (u32s l).length ((u32s l).map (Value.int .u32)) W):Rd 1 (some ⟨g,0,none⟩) l.length (l.map u32) W:=by
 have e:(u32s l).map (Value.int .u32)=l.map u32:=by rw [List.map_map];rfl
 rw [e,List.length_map] at h
 exact h
end Go.Proofs.YtloeaiafphkjnaaGreatDoor.Sx
namespace Go.Proofs.YtloeaiafphkjnaaGreatDoor.Sx
open Go
mutual
def lits {H:Type}:DataW H->Option (List Value)
 | .lit (.int k n)=>some [.int k n]
 | .lit (.bool b)=>some [.bool b]
 | .lit (.string l)=>some [.string ⟨l.toArray⟩]
 | .agg ps=>litsL ps
 | _=>none
def litsL {H:Type}:List (DataW H)->Option (List Value)
 | []=>some []
 | d::r=>match lits d,litsL r with
  | some a,some b=>some (a++b)
  | _,_=>none
end
def contig (P:Program):List Field->Nat->Option Nat
 | [],o=>some o
 | f::r,o=>if f.offset=o then contig P r (o+P.cellsOf f.type) else none
def flatB (P:Program):Nat->TypeId->Bool
 | 0,_=>false
 | n+1,t=>match P.underlying t with
  | some (.int _) | some .bool | some .string=>true
  | some (.struct fs)=>(match contig P fs.toList 0 with | some e=>Nat.beq e (P.cellsOf t) | none=>false)&&fs.toList.all fun f=>flatB P n f.type
  | some (.array m e)=>Nat.beq (m*P.cellsOf e) (P.cellsOf t)&&flatB P n e
  | _=>false
section
variable {H:Type} {enc:TypeId×Value->H} {P:Program} {w:World} {base:Nat} {sp:Nat->Bool} {held:Bool}
theorem z_mx (m:Nat) (cs:List Value): ∀(fs:List Field) (xs:List (DataW H×List MemPlace)) (o e:Nat),contig P fs o=some e->xs.length=fs.length->
  (∀(i:Nat) (f:Field),fs[i]?=some f->DataW.trod enc P w base sp held m f.type ((cs.drop f.offset).take (P.cellsOf f.type))=xs[i]?)->
  (∀f∈fs,∀cs' x,DataW.trod enc P w base sp held m f.type cs'=some x->lits x.1=some cs')->o<=e/\litsL (xs.map (·.1))=some ((cs.drop o).take (e - o))
 | [],xs,o,e,hc,hl,_,_=>by
  obtain rfl:=Option.some.inj hc
  obtain rfl:=List.eq_nil_of_length_eq_zero hl
  exact ⟨Nat.le_refl _,by simp [litsL]⟩
 | f::r,[],o,e,hc,hl,_,_=>by cases hl
 | f::r,x::xs,o,e,hc,hl,h,ih=>by
  simp only [contig] at hc
  split at hc
  ·rename_i ho
   have h0:=h 0 f rfl
   rw [ho] at h0
   have h1:=ih f List.mem_cons_self _ x h0
   obtain ⟨h2,h3⟩:=z_mx m cs r xs _ e hc (by simpa using hl) (fun i g hg=>by
    have:=h (i+1) g (by simpa using hg)
    simpa using this) (fun g hg=>ih g (List.mem_cons_of_mem _ hg))
   refine ⟨by omega,?_⟩
   simp only [List.map_cons,litsL,h1,h3]
   congr 1
   have e1:e - o=P.cellsOf f.type+(e - (o+P.cellsOf f.type)):=by omega
   rw [e1,List.take_add,List.drop_drop]
  ·cases hc
theorem z_n3 (m k:Nat) (ty:TypeId) (cs:List Value) (hk:P.cellsOf ty=k): ∀(n:Nat) (xs:List (DataW H×List MemPlace)) (o:Nat),xs.length=n->
  (∀i,i<n->DataW.trod enc P w base sp held m ty ((cs.drop (o+i*k)).take k)=xs[i]?)->
  (∀cs' x,DataW.trod enc P w base sp held m ty cs'=some x->lits x.1=some cs')->litsL (xs.map (·.1))=some ((cs.drop o).take (n*k))
 | 0,xs,o,hl,_,_=>by
  obtain rfl:=List.eq_nil_of_length_eq_zero hl
  simp [litsL]
 | n+1,[],o,hl,_,_=>by cases hl
 | n+1,x::xs,o,hl,h,ih=>by
  have h0:=h 0 (Nat.succ_pos _)
  rw [Nat.zero_mul,Nat.add_zero] at h0
  have h1:=ih _ x h0
  have h3:=z_n3 m k ty cs hk n xs (o+k) (by simpa using hl) (fun i hi=>by
   have:=h (i+1) (by omega)
   rw [Nat.succ_mul,Nat.add_comm (i*k) k,<-Nat.add_assoc] at this
   simpa using this) ih
  simp only [List.map_cons,litsL,h1,h3]
  congr 1
  rw [Nat.succ_mul,Nat.add_comm (n*k) k,List.take_add,List.drop_drop]
theorem z_m1: ∀(k m:Nat) (t:TypeId) (cs:List Value) (x:DataW H×List MemPlace),flatB P k t=true->DataW.trod enc P w base sp held m t cs=some x->lits x.1=some cs
 | 0,_,_,_,_,h,_=>by cases h
 | k+1,m,t,cs,x,h,hd=>by
  unfold flatB at h
  split at h
  ·rename_i ht
   obtain ⟨n,rfl,rfl,_⟩:=DataW.trod_int ht hd
   rfl
  ·rename_i ht
   obtain ⟨n,rfl,rfl⟩:=DataW.trod_bool ht hd
   rfl
  ·rename_i ht
   obtain ⟨s,rfl,rfl,_⟩:=DataW.trod_string ht hd
   cases s with | mk a=>simp [lits,ByteArray.toList_eq]
  ·rename_i fs ht
   obtain ⟨xs,n,rfl,rfl,hl,hxl,hel⟩:=DataW.trod_struct ht hd
   simp only [Bool.and_eq_true] at h
   obtain ⟨hcon,hall⟩:=h
   cases hc:contig P fs.toList 0 with
   | none=>rw [hc] at hcon;cases hcon
   | some e=>
    rw [hc] at hcon
    have he:=Nat.eq_of_beq_eq_true hcon
    subst he
    have:=(z_mx n cs fs.toList xs 0 _ hc (by simpa using hxl) (fun i f hf=>hel i f (by simpa using hf)) (fun f hf cs' x' hx=>z_m1 k n f.type cs' x' (List.all_eq_true.1 hall f hf) hx)).2
    simp only [lits,this,List.drop_zero,Nat.sub_zero]
    rw [<-hl,List.take_length]
  ·rename_i n e ht
   obtain ⟨xs,m',rfl,rfl,hl,hxl,hel⟩:=DataW.trod_array ht hd
   simp only [Bool.and_eq_true] at h
   have he:=Nat.eq_of_beq_eq_true h.1
   have:=z_n3 m' (P.cellsOf e) e cs rfl n xs 0 hxl (fun i hi=>by rw [Nat.zero_add];exact hel i hi) (fun cs' x' hx=>z_m1 k m' e cs' x' h.2 hx)
   simp only [lits,this,List.drop_zero,he]
   rw [<-hl,List.take_length]
  ·cases h
theorem rd_of_laid {g n size m:Nat} {t:TypeId} {cs:Array Value} {d:DataW H} {q:List MemPlace} {vs:List Value} (hf:flatB P 5 t=true) (hv:lits d=some vs) (hn:vs.length=n*size)
  (hd:DataW.trod enc P w base sp held m t cs.toList=some (d,q)) (hcell: ∀j,w.cell? ⟨g,j,none⟩=cs[j]?):Rd size (some ⟨g,0,none⟩) n vs w:=by
 have h:=z_m1 5 m t _ _ hf hd
 rw [hv] at h
 have h':=Option.some.inj h
 refine ⟨hn,fun _=>⟨_,rfl,fun j u hu=>?_⟩⟩
 rw [z_bJ,Nat.zero_add,hcell j,<-Array.getElem?_toList,<-h']
 exact hu
end
end Go.Proofs.YtloeaiafphkjnaaGreatDoor.Sx
