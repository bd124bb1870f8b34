/- Texts joined: R14m, FewP, Rx1, CrO, Rla, Rx2, Rw5, SxCv, Rx3, Rx4, TabR, Tabs, Tb2, Hnd, SxArg, Laid, Laid2. -/
import Derived.Test.YtloeaiafphkjnaaGreatDoorMRollTurned6
import Derived.Test.YtloeaiafphkjnaaGreatDoorMRollTurned4
import Derived.Test.YtloeaiafphkjnaaGreatDoorMRollTurned2
import Derived.Test.YtloeaiafphkjnaaGreatDoorMRollTurned5
import Derived.Test.YtloeaiafphkjnaaGreatDoorMRollTurned3
import Derived.Lib.LaidTab
import Derived.Handed
import Derived.Shelf.Vars
import Derived.Below
import Derived.OpenShut
import Derived.ChangeArms
import Derived.LaidMore
set_option linter.unusedVariables false
set_option linter.unusedSimpArgs false
namespace Go.Proofs.YtloeaiafphkjnaaGreatDoor.Sx
open Go
attribute [local irreducible] Calls
def cut40 (s:ByteArray):ByteArray:=s.extract 0 (min s.size 40)
def fewCA (c:ACrd):ACrd:=⟨cut40 c.tenant,cut40 c.user,fewA c.sec,c.gen,(c.roles.take 10).map cut40,c.revoked⟩
set_option maxHeartbeats 1000000 in
theorem z_n8 (w:World) (c:Crd) (hx:SRd c.sec.x c.sec.a w) (hr:Rd 1 c.rA c.roles.length (strs c.roles) w) (hn:c.roles.length<=maxLen) (hts:c.tenant.size<=maxLen) (hus:c.user.size<=maxLen) (hrs: ∀r∈c.roles,r.size<=maxLen) (k1:c.sec.salt.l.length<=c.sec.salt.c) (k2:c.sec.stored.l.length<=c.sec.stored.c) (k3:c.sec.server.l.length<=c.sec.server.c) (k4:c.sec.ha1.l.length<=c.sec.ha1.c):
  Con Tryz.prog z_cB #[.agg c.vs.toArray] w [] fun v Fs=> ∃d:Crd,v= .agg d.vs.toArray/\d.a=fewCA c.a/\d.roles.length<=d.rc/\
   Fs=[browF z_ab d.sec.ha1.A d.sec.ha1.l d.sec.ha1.c,browF z_ab d.sec.server.A d.sec.server.l d.sec.server.c,browF z_ab d.sec.stored.A d.sec.stored.l d.sec.stored.c,browF z_ab d.sec.salt.A d.sec.salt.l d.sec.salt.c,srowF d.rA d.roles d.rc]:=by
 have g:=z_ft w (Un [])
 have hml:=maxLen_eq
 refine z_ac (cx:=z_cs w (Un [])) g z_g4 rfl rfl (β:=Va.z) [.agg c.ss] 0 [] [oldF w] rfl rfl (z_ay rfl) ?_
 obtain ⟨out,hout⟩: ∃out:Nat->List ByteArray,∀i,out i=((c.roles.take i).take 10).map cut40:=⟨fun i=>_,fun i=>rfl⟩
 have hol: ∀i,(out i).length<=10:=fun i=>by rw [hout,List.length_map,List.length_take];omega
 have h00:out 0=[]:=by rw [hout];rfl
 refine z_ai (ι:=WoJ) 2 (fun j=>[(1,.c (.p 0 0)),(2,.c (.p 1 0)),(3,.c (.v (.slice j.A (out j.i).length j.c))),(7,.c (.v (.slice c.rA c.roles.length c.rc))),(8,.c (.v (.int .i64 (c.roles.length:Int)))),(9,.c (.v (.int .i64 (j.i:Int))))]) (fun _=>_) (fun j=>[srowF j.A (out j.i) j.c,oldF w])
  (fun j=>j.i<=c.roles.length/\(out j.i).length<=j.c) (fun j=>c.roles.length - j.i) ⟨0,none,0⟩ ⟨Nat.zero_le _,by rw [h00];exact Nat.le_refl _⟩ (Ent.mk' ⟨rfl,rfl,by show some (SV.c (.v (.slice none 0 0)))=some (SV.c (.v (.slice none (out 0).length 0)));rw [h00];rfl,rfl,rfl,rfl,trivial⟩ rfl (fun β w' hs=>by
   have h:=hs.nilRow z_ag 1
   simp only [h00]
   exact h)) g ?_
 rintro ⟨i,A,d⟩ ⟨hi,hd⟩
 simp only at hi hd
 refine BIf.dec (fun hlt=>?_) (fun hge=>?_)
 ·have hlt0:(i:Int)<c.roles.length:=hlt
  obtain ⟨y,hy,hym⟩:=at_lt (show i<c.roles.length by omega)
  obtain ⟨ad,hA,_⟩:=hr.2 (by omega)
  refine ⟨ad,i,hA,rfl,by omega,.string y,fun β w' hs=>Rd.cell1 (by have h:=Rd.old hr (hs.get 1 rfl);rw [hA] at h;exact h) (by simp [strs,hy]),?_⟩
  refine BIf.dec (fun h10=>?_) (fun h10=>?_)
  ·have h100:(i:Int)<10:=h10
   have hnx:out (i+1)=out i++[cut40 y]:=by
    rw [hout,hout,List.take_take,List.take_take,show min 10 (i+1)=i+1 by omega,show min 10 i=i by omega,List.take_add_one,hy,List.map_append]
    rfl
   have hl1:(out (i+1)).length=(out i).length+1:=by rw [hnx,List.length_append];rfl
   have hol1:=hol (i+1)
   refine z_ae (v:= .string (cut40 y)) (fun β w' hs=>z_mT w' y 40 (hrs y hym) (by decide)) ?_
   intro b2
   refine ⟨1,(out i).length,(out (i+1)).length,strs (out i),[.string (cut40 y)],strs (out (i+1)),rfl,fun β w hs=>z_an (hs.get 0 rfl),(fun u hu=>by obtain rfl:=List.mem_singleton.1 hu;rfl),by rw [hl1],by rw [hnx];simp [strs],by omega,by show (out (i+1)).length*16<=_;omega,?_⟩
   intro A' c' q1 q2 q3
   refine ⟨((i+1:Nat):Int),by rw [wrap_i64 (by omega) (by omega)];rfl,?_⟩
   exact ⟨⟨i+1,A',c'⟩,⟨by show i+1<=c.roles.length;omega,q1⟩,by show c.roles.length - (i+1)<c.roles.length - i;omega,Ent.mk' ⟨rfl,rfl,rfl,rfl,rfl,rfl,trivial⟩ rfl (fun β w' hs=>(hs.perm [1,2]).lower)⟩
  ·have h100: ¬(i:Int)<10:=h10
   have hnx:out (i+1)=out i:=by
    rw [hout,hout,List.take_take,List.take_take,show min 10 (i+1)=10 by omega,show min 10 i=10 by omega]
   refine ⟨((i+1:Nat):Int),by rw [wrap_i64 (by omega) (by omega)];rfl,?_⟩
   refine ⟨⟨i+1,A,d⟩,⟨by show i+1<=c.roles.length;omega,by show (out (i+1)).length<=d;rw [hnx];exact hd⟩,by show c.roles.length - (i+1)<c.roles.length - i;omega,?_⟩
   simp only [hnx]
   exact Ent.same ⟨rfl,rfl,rfl,rfl,rfl,rfl,trivial⟩ rfl
 ·have hge0: ¬(i:Int)<c.roles.length:=hge
  have hfin:out i=(c.roles.take 10).map cut40:=by rw [hout,List.take_of_length_le (show c.roles.length<=i by omega)]
  rw [hfin] at hd ⊢
  refine z_aj g z_fK (by kernel_rfl) [⟨0,z_af,c.ss⟩] [oldF w] (fun β w hs=>(hs.keepB (List.sublist_cons_self _ _)).perm [1]) ?_
  refine z_ae (v:= .string (cut40 c.tenant)) (fun β w' hs=>z_mT w' c.tenant 40 hts (by decide)) ?_
  refine ⟨fun β w hs=>(hs.keepB (List.sublist_cons_self _ _)).perm [1],?_⟩
  refine z_ae (v:= .string (cut40 c.user)) (fun β w' hs=>z_mT w' c.user 40 hus (by decide)) ?_
  refine ⟨fun β w hs=>(hs.keepB (List.sublist_cons_self _ _)).perm [1],?_⟩
  refine z_aa [] (fun β w' hs=>z_yG w' c.sec (hx.old (hs.get 1 rfl)) k1 k2 k3 k4) ?_
  rintro v Fs ⟨y,rfl,hya,rfl⟩
  refine ⟨fun β w hs=>(hs.keepB (List.sublist_cons_self _ _)).perm [5],?_⟩
  refine ⟨fun β w hs=>(hs.keepB (List.sublist_cons_self _ _)).perm [5],?_⟩
  intro β w' hs
  exact (hs.keepB (List.nil_sublist _)).fin [0,1,2,3,4] ⟨⟨0,cut40 c.tenant,cut40 c.user,y,c.gen,A,d,(c.roles.take 10).map cut40,c.revoked⟩,rfl,by show ACrd.mk _ _ y.a _ _ _=_;rw [hya];rfl,hd,rfl⟩ rfl rfl rfl ⟨rfl,rfl,rfl,rfl,rfl,trivial⟩
theorem z_yD (a:ASec):ASz (fewA a):=by
 refine ⟨?_,?_,?_,?_⟩<;>show (List.take 40 _).length<=_<;>rw [List.length_take]<;>omega
theorem z_kf (s:ByteArray):(cut40 s).size<=40:=by
 unfold cut40
 rw [ByteArray.size_extract]
 omega
theorem z_xe (a:ACrd):CSz (fewCA a):=⟨z_yD a.sec,by show ((a.roles.take 10).map cut40).length<=_;rw [List.length_map,List.length_take];omega⟩
theorem z_xd (a:ACrd):(∀r∈(fewCA a).roles,r.size<=100000)/\(fewCA a).roles.length<=1000:=by
 refine ⟨fun r hr=>?_,by show ((a.roles.take 10).map cut40).length<=_;rw [List.length_map,List.length_take];omega⟩
 obtain ⟨s,_,rfl⟩:=List.mem_map.1 (show r∈(a.roles.take 10).map cut40 from hr)
 have:=z_kf s
 omega
def Grows (Y Y':RA):Prop:=RPl Y'/\Y'.cs.length<=Y.cs.length+1
theorem Grows.same {Y:RA} (h:RPl Y):Grows Y Y:=⟨h,Nat.le_succ _⟩
theorem z_xm {Y:RA} (h:RPl Y) (t:ByteArray):Grows Y (addTR Y t).2:=by
 unfold addTR
 split
 ·exact .same h
 ·rename_i hp
  split
  ·exact .same h
  ·split
   ·exact .same h
   ·refine ⟨⟨fun s hs=>?_,h.2⟩,Nat.le_succ _⟩
    have hs':s∈insT Y.ts (rank Y.ts t) t:=hs
    unfold insT at hs'
    rcases List.mem_append.1 hs' with q | q
    ·exact h.1 s (List.mem_of_mem_take q)
    ·rcases List.mem_cons.1 q with q | q
     ·rw [q];simpa using hp
     ·exact h.1 s (List.mem_of_mem_drop q)
theorem z_vS {Y:RA} (h:RPl Y) (t:ByteArray):Grows Y (dropTR Y t).2:=by
 unfold dropTR
 split
 ·exact .same h
 ·exact ⟨⟨fun s hs=>h.1 s (List.mem_filter.1 hs).1,fun c hc=>h.2 c (List.mem_filter.1 hc).1⟩,Nat.le_succ_of_le (List.length_filter_le _ _)⟩
theorem z_q3 {cs:List ACrd} {t u:ByteArray} {k:Nat} {c:ACrd} (h:oneR cs t u=some (k,c)):c∈cs:=by
 unfold oneR at h
 split at h
 ·cases h
 ·split at h
  ·cases h
  ·rename_i d hd
   injection h with h
   injection h with h1 h2
   subst h2
   exact List.mem_of_getElem? hd
theorem z_wU {Y:RA} (h:RPl Y) (t u:ByteArray):Grows Y (dropR Y t u).2:=by
 unfold dropR
 split
 ·exact .same h
 ·rename_i k c _
  refine ⟨⟨h.1,fun d hd=>?_⟩,?_⟩
  ·rcases List.mem_append.1 hd with q | q
   ·exact h.2 d (List.mem_of_mem_take q)
   ·exact h.2 d (List.mem_of_mem_drop q)
  ·show (Y.cs.take k++Y.cs.drop (k+1)).length<=_
   rw [List.length_append,List.length_take,List.length_drop]
   omega
theorem z_wk {Y:RA} (h:RPl Y) (k:Nat) {c:ACrd} (hc:allPl c.roles=true):Grows Y (setTR Y k c).2:=by
 unfold setTR
 split
 ·exact .same h
 ·refine ⟨⟨h.1,fun d hd=>?_⟩,by show (Y.cs.set _ _).length<=_;rw [List.length_set];exact Nat.le_succ _⟩
  rcases List.mem_or_eq_of_mem_set hd with q | q
  ·exact h.2 d q
  ·rw [q];exact hc
theorem z_ya {Y:RA} (h:RPl Y) (t u:ByteArray) (on:Bool):Grows Y (revR Y t u on).2:=by
 unfold revR
 split
 ·exact .same h
 ·rename_i k c hq
  exact z_wk h k (h.2 c (z_q3 hq))
theorem z_uY {Y:RA} (h:RPl Y) (t u role:ByteArray):Grows Y (grantR Y t u role false).2:=by
 unfold grantR
 split
 ·exact .same h
 ·rename_i k c hq
  split
  ·exact .same h
  ·rename_i hp
   rw [if_neg (by decide)]
   split
   ·exact .same h
   ·split
    ·exact .same h
    ·refine z_wk h k ?_
     refine List.all_eq_true.2 fun r hr=>?_
     have hr':r∈insT c.roles (rank c.roles role) role:=hr
     have hcr:=List.all_eq_true.1 (h.2 c (z_q3 hq))
     unfold insT at hr'
     rcases List.mem_append.1 hr' with q | q
     ·exact hcr r (List.mem_of_mem_take q)
     ·rcases List.mem_cons.1 q with q | q
      ·rw [q];simpa using hp
      ·exact hcr r (List.mem_of_mem_drop q)
theorem z_xV {Y:RA} (h:RPl Y) (c:ACrd):Grows Y (loadR Y c).2:=by
 obtain ⟨e,Y',hr⟩: ∃e Y',loadR Y c=(e,Y'):=⟨_,_,rfl⟩
 rw [hr]
 by_cases he:e=0
 ·subst he
  obtain ⟨q1,q2,q3,q4⟩:=z_rG hr
  refine ⟨⟨fun t ht=>?_,fun d hd=>?_⟩,?_⟩
  ·rcases q3 t ht with q | q
   ·exact h.1 t q
   ·rw [q];exact q1
  ·rcases q4 d hd with q | q
   ·exact h.2 d q
   ·rw [q];exact q2
  ·unfold loadR at hr
   split at hr
   ·injection hr with q _;cases q
   ·split at hr
    ·injection hr with q _;cases q
    ·split at hr
     ·injection hr with q _;cases q
     ·split at hr
      ·injection hr with q _;cases q
      ·split at hr
       ·injection hr with q _;cases q
       ·injection hr with _ q
        rw [<-q]
        show (insA Y.cs c).length<=_
        rw [(z_hR _ _).length_eq]
        exact Nat.le_refl _
 ·have:Y'=Y:=by
   unfold loadR at hr
   split at hr
   ·injection hr with _ q;exact q.symm
   ·split at hr
    ·injection hr with _ q;exact q.symm
    ·split at hr
     ·injection hr with _ q;exact q.symm
     ·split at hr
      ·injection hr with _ q;exact q.symm
      ·split at hr
       ·injection hr with _ q;exact q.symm
       ·injection hr with q _;exact absurd q.symm he
  subst this
  exact .same h
structure BothS (n:Nat) (S:Sto) (R:RS):Prop where
 j:Jn S.a R.a
 tc:R.ts.length<=R.tc
 lc:R.cs.length<=R.lc
 mem: ∀c∈R.cs,inP R.ps c
 p:RPl R.a
 n:R.cs.length<=n
theorem BothS.wf {n:Nat} {S:Sto} {R:RS} (h:BothS n S R):R.Wf:=h.j.rsWf h.tc h.lc h.mem
theorem BothS.step {n:Nat} {S S':Sto} {R R':RS} (h:BothS n S R) {x:Int×ASto} {y:Int×RA} (a:S'.a=x.2) (b2:R'.a=y.2) (b4:R'.ts.length<=R'.tc) (b5:R'.cs.length<=R'.lc) (b6: ∀c∈R'.cs,inP R'.ps c) (hj:Jn2 x y) (hg:Grows R.a y.2):
  x.1=y.1/\BothS (n+1) S' R':=by
 refine ⟨hj.1,⟨by rw [a,b2];exact hj.2,b4,b5,b6,by rw [b2];exact hg.1,?_⟩⟩
 have:=hg.2
 rw [<-b2] at this
 have e1:R'.a.cs.length=R'.cs.length:=List.length_map _
 have e2:R.a.cs.length=R.cs.length:=List.length_map _
 have:=h.n
 omega
structure Sec.Cap (x:Sec):Prop where
 c1:x.salt.l.length<=x.salt.c
 c2:x.stored.l.length<=x.stored.c
 c3:x.server.l.length<=x.server.c
 c4:x.ha1.l.length<=x.ha1.c
theorem z_uH {w:World} {m:Nat} {cs:List Value} (h:Opens Tryz.prog w m z_as cs): ∃x:Sec,cs=x.vs/\x.Cap/\SRd x.x x.a w:=by
 have cU:Tryz.prog.cellsOf z_ab=1:=by kernel_rfl
 have cI:Tryz.prog.cellsOf z_fy=1:=by kernel_rfl
 have cS:Tryz.prog.cellsOf z_al=1:=by kernel_rfl
 have cX:Tryz.prog.cellsOf z_as=5:=by kernel_rfl
 obtain ⟨m3,hl,hf⟩:=h.structT (ok83) rfl
 have f0:=hf 0 0 1 z_al rfl rfl
 have f1:=hf 1 1 1 z_fy rfl rfl
 have f2:=hf 2 2 1 z_al rfl rfl
 have f3:=hf 3 3 1 z_al rfl rfl
 have f4:=hf 4 4 1 z_al rfl rfl
 rw [cX] at hl
 rw [cS] at f0 f2 f3 f4
 rw [cI] at f1
 obtain ⟨x0,r0,rfl,k0⟩:=z_a3 hl
 obtain ⟨x1,r1,rfl,k1⟩:=z_a3 k0
 obtain ⟨x2,r2,rfl,k2⟩:=z_a3 k1
 obtain ⟨x3,r3,rfl,k3⟩:=z_a3 k2
 obtain ⟨x4,r4,rfl,k4⟩:=z_a3 k3
 obtain rfl:=List.eq_nil_of_length_eq_zero k4
 have by_: ∀ {cs:List Value},Opens Tryz.prog w m3 z_al cs-> ∃(A:Option Addr) (p:List UInt8) (c:Nat),cs=[.slice A p.length c]/\p.length<=c/\c<=maxLen/\Bs w A p:=fun h=>h.bytes ((ok43).real (d:= .slice z_ab) rfl rfl) ((ok5).real (d:= .int .u8) rfl rfl) cU
 obtain ⟨A0,p0,c0,h0,g0,_,e0⟩:=by_ f0
 obtain ⟨it,h1,_,_⟩:=f1.int ((ok3).real (d:= .int .i64) rfl rfl)
 obtain ⟨A2,p2,c2,h2,g2,_,e2⟩:=by_ f2
 obtain ⟨A3,p3,c3,h3,g3,_,e3⟩:=by_ f3
 obtain ⟨A4,p4,c4,h4,g4,_,e4⟩:=by_ f4
 simp at h0 h1 h2 h3 h4
 subst h0 h1 h2 h3 h4
 exact ⟨⟨⟨A0,c0,p0,g0⟩,it,⟨A2,c2,p2,g2⟩,⟨A3,c3,p3,g3⟩,⟨A4,c4,p4,g4⟩⟩,rfl,⟨g0,g2,g3,g4⟩,⟨rfl,rfl,rfl,rfl,rfl,e0,e2,e3,e4⟩⟩
theorem z_xU {w:World} {m:Nat} {cs:List Value} (h:Opens Tryz.prog w m z_af cs): ∃c:Crd,cs=c.vs/\c.sec.Cap/\SRd c.sec.x c.sec.a w/\Rd 1 c.rA c.roles.length (strs c.roles) w/\c.tenant.size<=maxLen/\c.user.size<=maxLen/\(∀r∈c.roles,r.size<=maxLen)/\c.roles.length<=maxLen/\c.gen<18446744073709551616:=by
 have cT:Tryz.prog.cellsOf z_ag=1:=by kernel_rfl
 have cX:Tryz.prog.cellsOf z_as=5:=by kernel_rfl
 have cG:Tryz.prog.cellsOf z_qj=1:=by kernel_rfl
 have cL:Tryz.prog.cellsOf z_lZ=1:=by kernel_rfl
 have cB:Tryz.prog.cellsOf z_jL=1:=by kernel_rfl
 have cC:Tryz.prog.cellsOf z_af=10:=by kernel_rfl
 obtain ⟨m3,hl,hf⟩:=h.structT (ok85) rfl
 have f0:=hf 0 0 1 z_ag rfl rfl
 have f1:=hf 1 1 1 z_ag rfl rfl
 have f2:=hf 2 2 5 z_as rfl rfl
 have f3:=hf 3 7 1 z_qj rfl rfl
 have f4:=hf 4 8 1 z_lZ rfl rfl
 have f5:=hf 5 9 1 z_jL rfl rfl
 rw [cC] at hl
 rw [cT] at f0 f1
 rw [cX] at f2
 rw [cG] at f3
 rw [cL] at f4
 rw [cB] at f5
 obtain ⟨x0,r0,rfl,k0⟩:=z_a3 hl
 obtain ⟨x1,r1,rfl,k1⟩:=z_a3 k0
 obtain ⟨x2,r2,rfl,k2⟩:=z_a3 k1
 obtain ⟨x3,r3,rfl,k3⟩:=z_a3 k2
 obtain ⟨x4,r4,rfl,k4⟩:=z_a3 k3
 obtain ⟨x5,r5,rfl,k5⟩:=z_a3 k4
 obtain ⟨x6,r6,rfl,k6⟩:=z_a3 k5
 obtain ⟨x7,r7,rfl,k7⟩:=z_a3 k6
 obtain ⟨x8,r8,rfl,k8⟩:=z_a3 k7
 obtain ⟨x9,r9,rfl,k9⟩:=z_a3 k8
 obtain rfl:=List.eq_nil_of_length_eq_zero k9
 obtain ⟨t,h0,s0⟩:=f0.str ((ok9).real (d:= .string) rfl rfl)
 obtain ⟨u,h1,s1⟩:=f1.str ((ok9).real (d:= .string) rfl rfl)
 obtain ⟨x,h2,s2,s3⟩:=z_uH f2
 obtain ⟨n,h3,n0,n1⟩:=f3.int ((ok50).real (d:= .int .u64) rfl rfl)
 obtain ⟨A,k,c,xs,m4,h4,_,q2,q3,_,_,q6,q7⟩:=f4.slice ((ok32).real (d:= .slice z_ag) rfl rfl)
 obtain ⟨b,h5⟩:=f5.bool ((ok4).real (d:= .bool) rfl rfl)
 obtain ⟨ss,hsl,hfl,hok⟩:=z_gy (f:=fun s:ByteArray=>[Value.string s]) (p:=fun s=>s.size<=maxLen) (xs:=xs) (fun y hy=>(q7 y hy).str ((ok9).real (d:= .string) rfl rfl))
 have hfm:ss.flatMap (fun s=>[Value.string s])=strs ss:=z_oO Value.string ss
 rw [cT,hfl,hfm] at q6
 have hk:k=ss.length:=by omega
 subst hk
 have hn:n=((n.toNat:Nat):Int):=by have:(0:Int)<=n:=n0;omega
 have hn1:n<=18446744073709551615:=n1
 simp at h0 h1 h3 h4 h5
 have h2':x2::x3::x4::x5::x6::[]=x.vs:=h2
 refine ⟨⟨0,t,u,x,n.toNat,A,c,ss,b⟩,?_,s2,s3,q6,s0,s1,hok,by show ss.length<=maxLen;omega,by show n.toNat<_;omega⟩
 show _=Value.string t::Value.string u::(x.vs++[.int .u64 (n.toNat:Int),.slice A ss.length c,.bool b])
 rw [<-h2',h0,h1,h3,h4,h5,<-hn]
 rfl
theorem z_sr (w:World) (s:ByteArray) (k:Nat) (_hk:k<=1000000):Pu Tryz.prog z_bi #[.string s,.int .i64 k] w (.string (mkS (s.data.toList.take k))):=by
 refine pu_of (z_aH (cx:=z_a9 w None_) (z_bR w None_) z_cx rfl rfl (β:=Va.z) [.c (.v (.string s)),.c (.v (.int .i64 k))] 0 [] [] rfl rfl (Sat.start rfl) ?_)
 refine ⟨((min s.size k:Nat):Int),by dsimp only;omega,?_⟩
 refine ⟨min s.size k,0,rfl,rfl,by omega,Nat.zero_le _,?_⟩
 intro β w' hs
 refine ⟨?_,hs.chg⟩
 have e:s.data.toList.take k=s.data.toList.take (min s.size k):=by
  rw [List.take_eq_take_min,show s.data.toList.length=s.size from rfl,Nat.min_comm]
 rw [e,<-z_pe,z_wG]
 rfl
structure OpR where
 d:UInt8
 c:Crd
 r:ByteArray
 on:Bool
def OpR.cells (o:OpR):List Value:= .int .u8 o.d.toNat::(o.c.vs++[.string o.r,.bool o.on])
def OpR.ss (o:OpR):List SL:= .v (.int .u8 o.d.toNat)::(o.c.ss++[.v (.string o.r),.v (.bool o.on)])
structure OpR.In (o:OpR) (w:World):Prop where
 s:SRd o.c.sec.x o.c.sec.a w
 r:Rd 1 o.c.rA o.c.roles.length (strs o.c.roles) w
 ct:o.c.tenant.size<=maxLen
 cu:o.c.user.size<=maxLen
 cr: ∀r∈o.c.roles,r.size<=maxLen
 cl:o.c.roles.length<=maxLen
theorem z_xD (o:OpR):o.cells.length=13:=rfl
theorem z_x4 {w:World} {A:Option Addr} {ad:Addr} {ops:List OpR} (h:Rd 13 A ops.length (ops.flatMap OpR.cells) w) (hA:A=some ad) {k:Nat} {o:OpR} (ho:ops[k]?=some o): ∀j u,o.cells[j]?=some u->w.cell? ((ad.add (k*13)).add j)=some u:=by
 obtain ⟨hil,hie⟩:=List.getElem?_eq_some_iff.1 ho
 have h2:=Rd.elem (f:=OpR.cells) z_xD h hA hil
 rw [hie] at h2
 exact h2
theorem z_vI {w:World} {f:Fact} (hf:f.own=false) (hm:Mem w [f]):Mem w [oldF w,f]:=by
 refine ⟨fun g hg=>?_,fun g hg k hk=>?_,List.pairwise_cons.2 ⟨fun g hg ho=>?_,List.pairwise_singleton _ _⟩⟩
 ·rcases List.mem_cons.1 hg with rfl | hg
  ·exact fun k _=>rfl
  ·exact hm.fact g hg
 ·rcases List.mem_cons.1 hg with rfl | hg
  ·exact hk
  ·exact hm.flt g hg k hk
 ·obtain rfl:=List.mem_singleton.1 hg
  rcases ho with ho | ho
  ·cases ho
  ·rw [hf] at ho;cases ho
structure BlJ where
 i:Nat
 S:Sto
 R:RS
set_option maxHeartbeats 2000000 in
theorem z_s7 (w:World) (A:Option Addr) (ops:List OpR) (cap k:Nat) (hA:Rd 13 A ops.length (ops.flatMap OpR.cells) w) (hin: ∀o∈ops,o.In w) (hn:ops.length<=9223372036854775807) (hk:k<=1000) (hm:Mem w [namF]):
  Con Tryz.prog z_dJ #[.slice A ops.length cap,.int .i64 k] w [] fun v Fs=> ∃S R,v= .tuple #[ptr S.b,ptr R.b,.bool true]/\BothS k S R/\Fs=[stoF S,rsF R]:=by
 have g:=z_gh w (Un [])
 have hml:=maxLen_eq
 refine z_lp (cx:=z_c0 w (Un [])) g z_iU [.c (.v (.slice A ops.length cap)),.c (.v (.int .i64 k))] [oldF w,namF] (z_vI rfl hm) ?_
 refine z_ao g ?_
 refine z_ao g ?_
 refine z_aa [] (fun β w' hs=>z_rD w') ?_
 rintro v Fs ⟨b,m,rfl,rfl⟩
 refine z_pW 0 (fun b=>(rs0 b).vs) rfl rfl (fun b=>rfl) (fun b2=>?_)
 refine z_s5 (F':=[rsF (rs0 b2),stoF (sto0 b m),oldF w,namF]) (fun β w' hs=>hs.rs0) ?_
 refine z_ao g ?_
 refine z_ai (ι:=BlJ) 1 (fun j=>[(1,.c (.v (.int .i64 k))),(4,.c (.v (.pointer none))),(5,.c (.v (.pointer none))),(6,.c (.v (.bool false))),(7,.c (.v (ptr b))),(8,.c (.v (ptr b2))),(18,.c (.v (.slice A ops.length cap))),(19,.c (.v (.int .i64 (ops.length:Int)))),(20,.c (.v (.int .i64 (j.i:Int))))]) (fun _=>[]) (fun j=>[stoF j.S,rsF j.R,oldF w,namF])
  (fun j=>j.i<=ops.length/\BothS (min j.i k) j.S j.R/\j.S.b=b/\j.R.b=b2) (fun j=>ops.length - j.i) ⟨0,sto0 b m,rs0 b2⟩ ⟨Nat.zero_le _,⟨fg0.j,Nat.le_refl _,Nat.le_refl _,fun c hc=>(by cases hc),⟨fun _ h=>(by cases h),fun _ h=>(by cases h)⟩,Nat.zero_le _⟩,rfl,rfl⟩ (Ent.mk' ⟨rfl,rfl,rfl,rfl,rfl,rfl,rfl,rfl,rfl,trivial⟩ rfl (fun β w' hs=>hs.perm [1,0,2,3])) g ?_
 rintro ⟨i,S,R⟩ ⟨hi,hB,hSb,hRb⟩
 simp only at hi hB hSb hRb
 refine BIf.dec (fun hlt=>?_) (fun hge=>?_)
 ·have hlt0:(i:Int)<ops.length:=hlt
  obtain ⟨o,ho,hom⟩:=at_lt (show i<ops.length by omega)
  obtain ⟨ad,hAd,_⟩:=hA.2 (by omega)
  have hoi:=hin o hom
  refine ⟨ad,i,hAd,rfl,by omega,o.cells,rfl,fun β w' hs=>z_x4 (Rd.old hA (hs.get 2 rfl)) hAd ho,?_⟩
  refine BIf.dec (fun hik=>?_) (fun hik=>?_)
  ·have hik0:(k:Int)<=(i:Int):=hik
   rw [Nat.min_eq_right (by omega)] at hB
   refine z_ao g ?_
   refine z_eT g ?_
   intro β w' hs
   exact (hs.keepB (List.nil_sublist _)).fin [0,1] ⟨S,R,by rw [hSb,hRb];rfl,hB,rfl⟩
  have hik0: ¬(k:Int)<=(i:Int):=hik
  rw [Nat.min_eq_left (by omega)] at hB
  obtain ⟨d,c,r,on⟩:=o
  refine z_aa [] (fun β w' hs=>z_n8 w' c (hoi.s.old (hs.get 2 rfl)) (Rd.old hoi.r (hs.get 2 rfl)) hoi.cl hoi.ct hoi.cu hoi.cr c.sec.salt.hc c.sec.stored.hc c.sec.server.hc c.sec.ha1.hc) ?_
  rintro v Fs ⟨d1,rfl,hd1,hd1c,rfl⟩
  refine z_ae (fun β w' hs=>z_sr w' r 40 (by decide)) ?_
  obtain ⟨r0,hr0⟩: ∃r0,mkS (r.data.toList.take 40)=r0:=⟨_,rfl⟩
  have hr0z:r0.size<=40:=by rw [<-hr0];show (r.data.toList.take 40).length<=_;rw [List.length_take];omega
  rw [hr0]
  have s1:d1.tenant.size<=40:=by rw [show d1.tenant=cut40 c.tenant from congrArg ACrd.tenant hd1];exact z_kf _
  have s2:d1.user.size<=40:=by rw [show d1.user=cut40 c.user from congrArg ACrd.user hd1];exact z_kf _
  have hfr:=z_xd c.a
  refine ⟨by decide,?_⟩
  obtain ⟨m,hm⟩: ∃m:Int,((d.toNat%9:Nat):Int)=m:=⟨_,rfl⟩
  refine ⟨m,by rw [<-hm];exact Int.ofNat_tmod _ _,?_⟩
  refine BIf.dec (fun h0=>?_) (fun h0=>?_)
  ·refine z_aj g z_gR (by kernel_rfl) [⟨2,z_af,d1.ss⟩] [] (fun β w hs=>(hs.keepB ((List.nil_sublist _).cons_cons _)).perm []) ?_
   obtain ⟨ea,xa,hxa⟩: ∃ea xa,addT S.a d1.tenant=(ea,xa):=⟨_,_,rfl⟩
   refine z_aa [5] (R:=stoOut S (ea,xa)) (fun β w' hs=>by
    have h:=z_ns w' S d1.tenant (by omega) (hs.mem.take (js:=[5]) rfl)
    rw [hSb,hxa] at h
    exact h) ?_
   rintro v Fs ⟨S',rfl,a2,a3,rfl⟩
   refine ⟨fun β w hs=>(hs.keepB ((List.nil_sublist _).cons_cons _)).perm [],?_⟩
   obtain ⟨eb,xb,hxb⟩: ∃eb xb,addTR R.a d1.tenant=(eb,xb):=⟨_,_,rfl⟩
   refine z_aa [6] (R:=rsOut R (eb,xb)) (fun β w' hs=>by
    have h:=z_sV w' R d1.tenant hB.wf (by omega) (hs.mem.take (js:=[6]) rfl)
    rw [hRb,hxb] at h
    exact h) ?_
   rintro v Fs ⟨R',rfl,b2,b3,b4,b5,b6,b7,rfl⟩
   obtain ⟨hee,hB'⟩:=hB.step a2 b2 b4 b5 b6 (by rw [<-hxa,<-hxb];exact hB.j.addT _) (by rw [<-hxb];exact z_xm hB.p _)
   refine ⟨fun β w hs=>(hs.keepB ((List.nil_sublist _).cons_cons _)).perm [],?_⟩
   refine BIf.not (BIf.dec (fun _=>?_) (fun h=>absurd hee h))
   refine ⟨((i+1:Nat):Int),by rw [wrap_i64 (by omega) (by omega)];rfl,?_⟩
   exact ⟨⟨i+1,S',R'⟩,⟨by show i+1<=ops.length;omega,by show BothS (min (i+1) k) S' R';rw [Nat.min_eq_left (by omega)];exact hB',a3.trans hSb,b3.trans hRb⟩,by show ops.length - (i+1)<ops.length - i;omega,Ent.mk' ⟨rfl,rfl,rfl,rfl,rfl,rfl,rfl,rfl,rfl,trivial⟩ rfl (fun β w' hs=>((hs.keepB (List.nil_sublist _)).perm [1,0,7,8]).lower)⟩
  refine BIf.dec (fun h1=>?_) (fun h1=>?_)
  ·refine z_aj g z_gQ (by kernel_rfl) [⟨2,z_af,d1.ss⟩] [] (fun β w hs=>(hs.keepB ((List.nil_sublist _).cons_cons _)).perm []) ?_
   obtain ⟨ea,xa,hxa⟩: ∃ea xa,dropT S.a d1.tenant=(ea,xa):=⟨_,_,rfl⟩
   refine z_aa [5] (R:=stoOut S (ea,xa)) (fun β w' hs=>by
    have h:=z_pq w' S d1.tenant (hs.mem.take (js:=[5]) rfl)
    rw [hSb,hxa] at h
    exact h) ?_
   rintro v Fs ⟨S',rfl,a2,a3,rfl⟩
   refine ⟨fun β w hs=>(hs.keepB ((List.nil_sublist _).cons_cons _)).perm [],?_⟩
   obtain ⟨eb,xb,hxb⟩: ∃eb xb,dropTR R.a d1.tenant=(eb,xb):=⟨_,_,rfl⟩
   refine z_aa [6] (R:=rsOut R (eb,xb)) (fun β w' hs=>by
    have h:=z_vK w' R d1.tenant hB.wf (hs.mem.take (js:=[6]) rfl)
    rw [hRb,hxb] at h
    exact h) ?_
   rintro v Fs ⟨R',rfl,b2,b3,b4,b5,b6,b7,rfl⟩
   obtain ⟨hee,hB'⟩:=hB.step a2 b2 b4 b5 b6 (by rw [<-hxa,<-hxb];exact hB.j.dropT _) (by rw [<-hxb];exact z_vS hB.p _)
   refine ⟨fun β w hs=>(hs.keepB ((List.nil_sublist _).cons_cons _)).perm [],?_⟩
   refine BIf.not (BIf.dec (fun _=>?_) (fun h=>absurd hee h))
   refine ⟨((i+1:Nat):Int),by rw [wrap_i64 (by omega) (by omega)];rfl,?_⟩
   exact ⟨⟨i+1,S',R'⟩,⟨by show i+1<=ops.length;omega,by show BothS (min (i+1) k) S' R';rw [Nat.min_eq_left (by omega)];exact hB',a3.trans hSb,b3.trans hRb⟩,by show ops.length - (i+1)<ops.length - i;omega,Ent.mk' ⟨rfl,rfl,rfl,rfl,rfl,rfl,rfl,rfl,rfl,trivial⟩ rfl (fun β w' hs=>((hs.keepB (List.nil_sublist _)).perm [1,0,7,8]).lower)⟩
  refine BIf.dec (fun h6=>?_) (fun h6=>?_)
  ·refine z_aj g z_ge (by kernel_rfl) [⟨2,z_af,d1.ss⟩] [] (fun β w hs=>(hs.keepB ((List.nil_sublist _).cons_cons _)).perm []) ?_
   obtain ⟨ea,xa,hxa⟩: ∃ea xa,dropU S.a d1.tenant d1.user=(ea,xa):=⟨_,_,rfl⟩
   refine z_aa [5] (R:=stoOut S (ea,xa)) (fun β w' hs=>by
    have h:=z_yB w' S d1.tenant d1.user (by omega) (hs.mem.take (js:=[5,8]) rfl)
    rw [hSb,hxa] at h
    exact h) ?_
   rintro v Fs ⟨S',rfl,a2,a3,rfl⟩
   refine ⟨fun β w hs=>(hs.keepB ((List.nil_sublist _).cons_cons _)).perm [],?_⟩
   obtain ⟨eb,xb,hxb⟩: ∃eb xb,dropR R.a d1.tenant d1.user=(eb,xb):=⟨_,_,rfl⟩
   refine z_aa [6] (R:=rsOut R (eb,xb)) (fun β w' hs=>by
    have h:=z_xl w' R d1.tenant d1.user hB.wf (by omega) (hs.mem.take (js:=[6]) rfl)
    rw [hRb,hxb] at h
    exact h) ?_
   rintro v Fs ⟨R',rfl,b2,b3,b4,b5,b6,b7,rfl⟩
   obtain ⟨hee,hB'⟩:=hB.step a2 b2 b4 b5 b6 (by rw [<-hxa,<-hxb];exact hB.j.drop _ _) (by rw [<-hxb];exact z_wU hB.p _ _)
   refine ⟨fun β w hs=>(hs.keepB ((List.nil_sublist _).cons_cons _)).perm [],?_⟩
   refine BIf.not (BIf.dec (fun _=>?_) (fun h=>absurd hee h))
   refine ⟨((i+1:Nat):Int),by rw [wrap_i64 (by omega) (by omega)];rfl,?_⟩
   exact ⟨⟨i+1,S',R'⟩,⟨by show i+1<=ops.length;omega,by show BothS (min (i+1) k) S' R';rw [Nat.min_eq_left (by omega)];exact hB',a3.trans hSb,b3.trans hRb⟩,by show ops.length - (i+1)<ops.length - i;omega,Ent.mk' ⟨rfl,rfl,rfl,rfl,rfl,rfl,rfl,rfl,rfl,trivial⟩ rfl (fun β w' hs=>((hs.keepB (List.nil_sublist _)).perm [1,0,7,8]).lower)⟩
  refine BIf.dec (fun h7=>?_) (fun h7=>?_)
  ·refine z_aj g z_gj (by kernel_rfl) [⟨2,z_af,d1.ss⟩,⟨1,z_ch,OpR.ss ⟨d,c,r,on⟩⟩] [] (fun β w hs=>(hs.keepB (List.Sublist.refl _)).perm []) ?_
   obtain ⟨ea,xa,hxa⟩: ∃ea xa,revU S.a d1.tenant d1.user on=(ea,xa):=⟨_,_,rfl⟩
   refine z_aa [5] (R:=stoOut S (ea,xa)) (fun β w' hs=>by
    have h:=z_u0 w' S d1.tenant d1.user on (by omega) (hs.mem.take (js:=[5,8]) rfl)
    rw [hSb,hxa] at h
    exact h) ?_
   rintro v Fs ⟨S',rfl,a2,a3,rfl⟩
   refine ⟨fun β w hs=>(hs.keepB (List.Sublist.refl _)).perm [],?_⟩
   obtain ⟨eb,xb,hxb⟩: ∃eb xb,revR R.a d1.tenant d1.user on=(eb,xb):=⟨_,_,rfl⟩
   refine z_aa [6] (R:=rsOut R (eb,xb)) (fun β w' hs=>by
    have h:=z_sO w' R d1.tenant d1.user on hB.wf (by omega) (hs.mem.take (js:=[6]) rfl)
    rw [hRb,hxb] at h
    exact h) ?_
   rintro v Fs ⟨R',rfl,b2,b3,b4,b5,b6,b7,rfl⟩
   obtain ⟨hee,hB'⟩:=hB.step a2 b2 b4 b5 b6 (by rw [<-hxa,<-hxb];exact hB.j.revoke _ _ _) (by rw [<-hxb];exact z_ya hB.p _ _ _)
   refine ⟨fun β w hs=>(hs.keepB (List.Sublist.refl _)).perm [],?_⟩
   refine BIf.not (BIf.dec (fun _=>?_) (fun h=>absurd hee h))
   refine ⟨((i+1:Nat):Int),by rw [wrap_i64 (by omega) (by omega)];rfl,?_⟩
   exact ⟨⟨i+1,S',R'⟩,⟨by show i+1<=ops.length;omega,by show BothS (min (i+1) k) S' R';rw [Nat.min_eq_left (by omega)];exact hB',a3.trans hSb,b3.trans hRb⟩,by show ops.length - (i+1)<ops.length - i;omega,Ent.mk' ⟨rfl,rfl,rfl,rfl,rfl,rfl,rfl,rfl,rfl,trivial⟩ rfl (fun β w' hs=>((hs.keepB (List.nil_sublist _)).perm [1,0,7,8]).lower)⟩
  refine BIf.dec (fun h8=>?_) (fun h8=>?_)
  ·refine z_aj g z_gv (by kernel_rfl) [⟨2,z_af,d1.ss⟩] [] (fun β w hs=>(hs.keepB ((List.nil_sublist _).cons_cons _)).perm []) ?_
   obtain ⟨ea,xa,hxa⟩: ∃ea xa,grantG S.a d1.tenant d1.user r0=(ea,xa):=⟨_,_,rfl⟩
   refine z_aa [5] (R:=stoOut S (ea,xa)) (fun β w' hs=>by
    have h:=z_uK w' S d1.tenant d1.user r0 (by omega) (by omega) hB.j.roles (hs.mem.take (js:=[5,8]) rfl)
    rw [hSb,hxa] at h
    exact h) ?_
   rintro v Fs ⟨S',rfl,a2,a3,rfl⟩
   refine ⟨fun β w hs=>(hs.keepB ((List.nil_sublist _).cons_cons _)).perm [],?_⟩
   obtain ⟨eb,xb,hxb⟩: ∃eb xb,grantR R.a d1.tenant d1.user r0 false=(eb,xb):=⟨_,_,rfl⟩
   refine z_aa [6] (R:=rsOut R (eb,xb)) (fun β w' hs=>by
    have h:=z_uQ w' R d1.tenant d1.user r0 false hB.wf (by omega) (by omega) (hs.mem.take (js:=[6]) rfl)
    rw [hRb,hxb] at h
    exact h) ?_
   rintro v Fs ⟨R',rfl,b2,b3,b4,b5,b6,b7,rfl⟩
   obtain ⟨hee,hB'⟩:=hB.step a2 b2 b4 b5 b6 (by rw [<-hxa,<-hxb];exact hB.j.grant _ _ _) (by rw [<-hxb];exact z_uY hB.p _ _ _)
   refine ⟨fun β w hs=>(hs.keepB ((List.nil_sublist _).cons_cons _)).perm [],?_⟩
   refine BIf.not (BIf.dec (fun _=>?_) (fun h=>absurd hee h))
   refine ⟨((i+1:Nat):Int),by rw [wrap_i64 (by omega) (by omega)];rfl,?_⟩
   exact ⟨⟨i+1,S',R'⟩,⟨by show i+1<=ops.length;omega,by show BothS (min (i+1) k) S' R';rw [Nat.min_eq_left (by omega)];exact hB',a3.trans hSb,b3.trans hRb⟩,by show ops.length - (i+1)<ops.length - i;omega,Ent.mk' ⟨rfl,rfl,rfl,rfl,rfl,rfl,rfl,rfl,rfl,trivial⟩ rfl (fun β w' hs=>((hs.keepB (List.nil_sublist _)).perm [1,0,7,8]).lower)⟩
  refine z_aa [] (fun β w' hs=>z_n8 w' c (hoi.s.old (hs.get 7 rfl)) (Rd.old hoi.r (hs.get 7 rfl)) hoi.cl hoi.ct hoi.cu hoi.cr c.sec.salt.hc c.sec.stored.hc c.sec.server.hc c.sec.ha1.hc) ?_
  rintro v Fs ⟨d2,rfl,hd2,hd2c,rfl⟩
  have u1:d2.tenant.size<=40:=by rw [show d2.tenant=cut40 c.tenant from congrArg ACrd.tenant hd2];exact z_kf _
  have u2:d2.user.size<=40:=by rw [show d2.user=cut40 c.user from congrArg ACrd.user hd2];exact z_kf _
  have r1:d1.roles=(fewCA c.a).roles:=congrArg ACrd.roles hd1
  have r2:d2.roles=(fewCA c.a).roles:=congrArg ACrd.roles hd2
  refine z_aj g z_gn (by kernel_rfl) [⟨3,z_af,d2.ss⟩,⟨2,z_af,d1.ss⟩] [] (fun β w hs=>(hs.keepB (((List.nil_sublist _).cons_cons _).cons_cons _)).perm []) ?_
  obtain ⟨ea,xa,hxa⟩: ∃ea xa,loadA S.a d2.a=(ea,xa):=⟨_,_,rfl⟩
  refine z_aa [10] (R:=stoOut S (ea,xa)) (fun β w' hs=>by
   have k1:=(hs.keepB (List.nil_sublist _)).bsCs (c:=d2) [4,0,1,2,3] rfl
   have h:=z_ww w' S d2 (by omega) (by omega) (by rw [r2];exact hfr.1) (by rw [r2];have:=hfr.2;omega) (by rw [hd2];exact z_xe _) (((k1.asRo 0 rfl).ofRo 0 rfl (crRd d2) rfl (z_rH (k1.get 0 rfl) (c:=d2) (by simp)) (fun k hk=>⟨crRd d2,by simp,hk⟩)).mem.take (js:=[7,0,10]) rfl)
   rw [hSb,hxa] at h
   exact h) ?_
  rintro v Fs ⟨S',rfl,a2,a3,rfl⟩
  refine ⟨fun β w hs=>(hs.keepB (((List.nil_sublist _).cons_cons _).cons_cons _)).perm [],?_⟩
  obtain ⟨eb,xb,hxb⟩: ∃eb xb,loadR R.a d1.a=(eb,xb):=⟨_,_,rfl⟩
  refine z_aa [10,6,7,8,9,11] (R:=rsOut R (eb,xb)) (fun β w' hs=>by
   have k1:=hs.keepB (List.nil_sublist _)
   have hU2: ∀k,Un [csF [d1],rsF R] k->Un [srowF d1.rA d1.roles d1.rc,browF z_ab d1.sec.ha1.A d1.sec.ha1.l d1.sec.ha1.c,browF z_ab d1.sec.server.A d1.sec.server.l d1.sec.server.c,browF z_ab d1.sec.stored.A d1.sec.stored.l d1.sec.stored.c,browF z_ab d1.sec.salt.A d1.sec.salt.l d1.sec.salt.c,rsF R] k:=by
    rintro k ⟨f,hf,hk⟩
    rcases List.mem_cons.1 hf with rfl | hf
    ·obtain ⟨f2,hf2,hk2⟩:=k1.bsCsU (c:=d1) [10,6,7,8,9] rfl rfl k hk
     exact ⟨f2,List.mem_append_left [rsF R] hf2,hk2⟩
    ·obtain rfl:=List.mem_singleton.1 hf
     exact ⟨rsF R,by simp,hk⟩
   have h:=z_pi R d1 ((k1.bsCs (c:=d1) [10,6,7,8,9] rfl).perm [0,7]) hd1c hB.wf (by omega) (by omega) (by rw [r1];exact hfr.1) (by rw [r1];have:=hfr.2;omega)
   rw [hRb,hxb] at h
   exact h.gs hU2) ?_ ⟨rfl,rfl,rfl,rfl,rfl,rfl,trivial⟩
  rintro v Fs ⟨R',rfl,b2,b3,b4,b5,b6,b7,rfl⟩
  obtain ⟨hee,hB'⟩:=hB.step a2 b2 b4 b5 b6 (by rw [<-hxa,<-hxb,hd1,hd2];exact hB.j.load _) (by rw [<-hxb];exact z_xV hB.p _)
  refine ⟨fun β w hs=>(hs.keepB (((List.nil_sublist _).cons_cons _).cons_cons _)).perm [],?_⟩
  refine BIf.not (BIf.dec (fun _=>?_) (fun h=>absurd hee h))
  refine ⟨((i+1:Nat):Int),by rw [wrap_i64 (by omega) (by omega)];rfl,?_⟩
  exact ⟨⟨i+1,S',R'⟩,⟨by show i+1<=ops.length;omega,by show BothS (min (i+1) k) S' R';rw [Nat.min_eq_left (by omega)];exact hB',a3.trans hSb,b3.trans hRb⟩,by show ops.length - (i+1)<ops.length - i;omega,Ent.mk' ⟨rfl,rfl,rfl,rfl,rfl,rfl,rfl,rfl,rfl,trivial⟩ rfl (fun β w' hs=>((hs.keepB (List.nil_sublist _)).perm [1,0,7,8]).lower)⟩
 ·have hge0: ¬(i:Int)<ops.length:=hge
  refine z_ao g ?_
  refine z_eT g ?_
  intro β w' hs
  refine (hs.keepB (List.nil_sublist _)).fin [0,1] ⟨S,R,by rw [hSb,hRb];rfl,⟨hB.j,hB.tc,hB.lc,hB.mem,hB.p,?_⟩,rfl⟩
  have:=hB.n
  omega
abbrev rollTabs:List Fact:=[oddF 2,firstF 0,mlF,errF 5,errF 6,powF,namF,oddF 1]
theorem z_sz:Reads rollTabs:=⟨rfl,rfl,rfl,rfl,rfl,rfl,rfl,rfl,trivial⟩
end Go.Proofs.YtloeaiafphkjnaaGreatDoor.Sx
namespace Go.Proofs.YtloeaiafphkjnaaGreatDoor.Sx
open Go
def wrF (b:Nat) (l:List UInt8):Fact where
 own:=true
 D:=fun g=>g=b
 p:=fun w=> ∃(cs:Array Value) (e:TypeId) (z:Nat×Nat),w.heap[b]?=some (.cells cs e z)/\l.length<=z.1/\ ∀(j:Nat) (u:Value),(l.map byte)[j]?=some u->cs[j]?=some u
 st:=fun w w' hs h=>by rw [hs b rfl];exact h
theorem z_tt {w:World} {b:Nat} {cs:Array Value} {e:TypeId} {z:Nat×Nat} (hb:w.heap[b]?=some (.cells cs e z)) (j:Nat):w.cell? ⟨b,j,none⟩=cs[j]?:=by
 simp [World.cell?,hb]
theorem wr_rd {w:World} {b:Nat} {l:List UInt8} (h:(wrF b l).p w):Rd 1 (some ⟨b,0,none⟩) l.length (l.map byte) w:=by
 obtain ⟨cs,e,z,hb,_,hc⟩:=h
 refine ⟨by simp,fun _=>⟨_,rfl,fun j u hj=>?_⟩⟩
 rw [z_a0,Nat.zero_add,z_tt hb]
 exact hc j u hj
section
variable {cx:Cx} {β:Va} {n:Nat} {env:Env} {H:List Bk} {F:List Fact} {a:Act} {w w':World}
theorem Sat.wrSet (h:Sat cx β n H F w) {j b:Nat} {l:List UInt8} (hj:nth F j=some (wrF b l)) {i:Nat} (hi:i<l.length) (y:UInt8):
  ∃w',(storeCells ((⟨b,0,none⟩:Addr).add (i*1)) [byte y] 0).run cx.P w= .ok () w'/\Sat cx β n H (putAt F j (wrF b (l.set i y))) w':=by
 rw [Nat.mul_one]
 obtain ⟨cs,e,z,hb,hz,hc⟩:=(show (wrF b l).p w from h.get j hj)
 have hci:cs[i]?=some (byte l[i]):=hc i _ (by rw [List.getElem?_map,List.getElem?_eq_getElem hi];rfl)
 have hil:i<cs.size:=(Array.getElem?_eq_some_iff.1 hci).1
 have hf:w.frozen? ⟨b,i,none⟩=false:=by
  simp only [World.frozen?,hb]
  have: ¬z.1<=i:=by omega
  simp [this]
 have hs:(store (((⟨b,0,none⟩:Addr).add i).add 0) (byte y)).run cx.P w= .ok () (w.setCell ⟨b,i,none⟩ (byte y)):=by
  rw [z_a0,z_a0,Nat.zero_add,Nat.add_zero,run_store cx.P w _ (byte y) _ rfl,z_tt hb,hci]
  simp [hf]
 refine ⟨_,?_,h.upd hj rfl (w':=w.setCell ⟨b,i,none⟩ (byte y)) ⟨rfl,rfl,rfl,by simp [World.setCell],fun k _ hk=>RowKit.Below.heap_setCell _ _ _ _ hk⟩ ?_ (fun q hq=> .inl hq)⟩
 ·simp only [storeCells,Sem.run_bind,hs,Result.andThen_ok,Sem.run_pure]
 ·refine ⟨cs.setIfInBounds i (byte y),e,z,by simp [World.setCell,Array.getElem?_modify,hb],by rw [List.length_set];exact hz,fun k u hk=>?_⟩
  rw [List.map_set,List.getElem?_set] at hk
  rw [Array.getElem?_setIfInBounds]
  by_cases q:i=k
  ·subst q
   rw [if_pos rfl,List.length_map,if_pos hi] at hk
   rw [if_pos rfl,if_pos hil]
   exact hk
  ·rw [if_neg q] at hk
   rw [if_neg q]
   exact hc k u hk
def wbwp (cx:Cx) (n:Nat) (env:Env) (H:List Bk) (F:List Fact) (dst:Option Tmp) (src t:TypeId) (x:Operand) (K:KT):Prop:=
 match lk cx.tt src,lk cx.tt t,ev env x with
 | some _,some i,some (.c (.v (.string s)))=>match i.desc with
  | .slice e=>match lk cx.tt e with
   | some ie=>match ie.desc with
    | .int .u8=> ∀b c,s.size<=c->(s.size<=maxLen->c<=maxLen)->put cx.N n env H (wrF b s.data.toList::F) dst (.c (.v (.slice (some ⟨b,0,none⟩) s.size c))) K
    | _=>False
   | none=>False
  | _=>False
 | _,_,_=>False
theorem z_rY (g:Good cx) (h:Inv cx β n env H F a w) {o:Oper} {src t:TypeId} {x:Operand} (ho:o.op= .convert src t x) {K:KT} (hp:wbwp cx n env H F o.dst src t x K) {K':Act->World->Prop} (hk: ∀a w,AfterE cx β n K a w->K' a w) {Q:Exit->Act->World->Prop}:o.wpIn cx.fence 0 cx.P a w K' Q:=by
 unfold wbwp at hp
 split at hp
 ·rename_i j i s hj hi hx
  have ti:=g.ti hi
  have tj:=g.ti hj
  split at hp
  ·rename_i e hd
   split at hp
   ·rename_i ie hie
    have tie:=g.ti hie
    split at hp
    ·rename_i hde
     have e1:a.eval x= .string s:=(h.ev hx).1
     obtain ⟨dj,hju,_⟩:=Option.map_eq_some_iff.1 tj.under
     have hrun:=Lib.run_convert_string_bytes (P:=cx.P) w src t e s hju (ti.real (d:= .slice _) hd rfl) (tie.real (d:= .int _) hde rfl)
     have hc:Chg None_ w (Lib.bytesWorld w e s):=⟨rfl,rfl,rfl,by rw [Lib.bytesWorld_size];omega,fun k hk _=>Lib.bytesWorld_at_old w e s k hk⟩
     have hs:Sat cx β n H (wrF w.heap.size s.data.toList::F) (Lib.bytesWorld w e s):=by
      refine h.sat.add hc _ ⟨_,_,_,Lib.bytesWorld_at_new w e s,?_,fun j u hj=>?_⟩ (fun k hk=>?_)
      ·simp [Lib.bytesCells]
      ·have hjl:j<s.size:=by have:=(List.getElem?_eq_some_iff.1 hj).1;simpa using this
       rw [List.getElem?_map] at hj
       obtain ⟨q,hq,rfl⟩:=Option.map_eq_some_iff.1 hj
       obtain ⟨_,rfl⟩:=List.getElem?_eq_some_iff.1 hq
       simp [Lib.bytesCells,Array.getElem?_append,byte,hjl]
      ·obtain rfl:k=w.heap.size:=hk
       rw [Lib.bytesWorld_size]
       simp
     have hcap:=grownCap_ge w s.size 0 e
     have hcm:=fun hm=>grownCap_le_maxLen w s.size 0 e hm
     refine z_fj (v:= .slice (some ⟨w.heap.size,0,none⟩) s.size (grownCap w s.size 0 e)) (w':=Lib.bytesWorld w e s) ?_ (notDefer ho (fun _ q=>by cases q)) (hk _ _ (z_ax (s:= .c (.v (.slice (some ⟨w.heap.size,0,none⟩) s.size (grownCap w s.size 0 e)))) (h.mem hs) trivial (hp _ _ hcap hcm)))
     simp only [execOp,ho,e1,Sem.run_bind,hrun,Result.andThen_ok,Sem.run_pure]
    ·exact hp.elim
   ·exact hp.elim
  ·exact hp.elim
 ·exact hp.elim
theorem z_og (g:Good cx) {ops:Array Oper} {Q:Exit->Act->World->Prop} (r:List Oper): ∀(l:List Oper) {K:KT} {β:Va} {n:Nat} {env:Env} {H:List Bk} {F:List Fact} {a:Act} {w:World},Inv cx β n env H F a w->rwp cx ops.toList l K n env H F->(∀a w,After cx K a w->wpListIn cx.fence 0 cx.P ops Q r a w)->wpListIn cx.fence 0 cx.P ops Q (l++r) a w
 | [],K,β,n,env,H,F,a,w,h,hp,hq=>hq _ _ ⟨β,n,env,H,F,h,hp⟩
 | o::l,K,β,n,env,H,F,a,w,h,hp,hq=>by
  refine wpListIn_step fun K' hK'=>?_
  have:=z_kE (Q:=Q) g h hp (fun a w ⟨β',n',env',H',F',_,_,h',hr⟩=>hK' _ _ (z_og g r l h' hr hq))
  split at this
  ·rename_i q;rw [if_pos q];exact this
  ·rename_i q;rw [if_neg q];exact ⟨fun f _=>cx.fence_fn f,this⟩
theorem z_t9 (g:Good cx) {id:Nat} {ops:Array Oper} {Q:Exit->KT} (k:Nat) (o:Oper) {src t:TypeId} {x:Operand} (hk:nth ops.toList k=some o) (ho:o.op= .convert src t x) (hg:o.guard=none)
  (h:rwp cx ops.toList (ops.toList.take k) (fun n env H F=>wbwp cx n env H F o.dst src t x (rwp cx ops.toList (ops.toList.drop (k+1)) (Q .normal))) n env H F):Tri cx (.region id ops false) Q n env H F:=by
 refine ⟨fun β a w hi=>wpIn_region_list ?_⟩
 rw [z_aB] at hk
 obtain ⟨hkl,hke⟩:=List.getElem?_eq_some_iff.1 hk
 have e:ops.toList=ops.toList.take k++o::ops.toList.drop (k+1):=by
  rw [<-hke,<-List.drop_eq_getElem_cons hkl,List.take_append_drop]
 have key:wpListIn cx.fence 0 cx.P ops (Post cx Q) (ops.toList.take k++o::ops.toList.drop (k+1)) a w:=z_og g _ _ hi h (fun a w ⟨β',n',env',H',F',h',hp⟩=>by
  refine wpListIn_step fun K' hK'=>?_
  rw [if_pos (by simp [Region.wanted,hg])]
  exact z_rY g h' ho hp (fun a w ⟨β',n',env',H',F',_,_,h',hr⟩=>hK' _ _ (z_mO g _ h' hr (fun a w q=>q))))
 rw [<-e] at key
 exact key
end
end Go.Proofs.YtloeaiafphkjnaaGreatDoor.Sx
namespace Go.Proofs.YtloeaiafphkjnaaGreatDoor.Sx
open Go
attribute [local irreducible] Calls
theorem z_tk: ∀(ts:List ByteArray) (cs:List ACrd),ts.Nodup->(ts.flatMap (inTA cs)).length<=cs.length
 | [],cs,_=>Nat.zero_le _
 | t::ts,cs,h=>by
  obtain ⟨h1,h2⟩:=List.nodup_cons.1 h
  have e: ∀l:List ByteArray,t∉l->l.flatMap (inTA cs)=l.flatMap (inTA (cs.filter fun c=>!decide (c.tenant=t))):=by
   intro l
   induction l with
   | nil=>intro _;rfl
   | cons a l ih=>
    intro hl
    rw [List.flatMap_cons,List.flatMap_cons,ih (fun q=>hl (List.mem_cons_of_mem _ q))]
    congr 1
    unfold inTA
    rw [List.filter_filter]
    refine List.filter_congr fun c _=>?_
    by_cases q:c.tenant=a
    ·have:a≠t:=fun z=>hl (z▸List.mem_cons_self)
     simp [q,this]
    ·simp [q]
  rw [List.flatMap_cons,List.length_append,e ts h1]
  have ih:=z_tk ts (cs.filter fun c=>!decide (c.tenant=t)) h2
  have key: ∀l:List ACrd,(inTA l t).length+(l.filter fun c=>!decide (c.tenant=t)).length=l.length:=by
   intro l
   induction l with
   | nil=>rfl
   | cons a l ih=>
    unfold inTA at ih ⊢
    by_cases q:a.tenant=t<;>simp [q]<;>omega
  have:=key cs
  omega
theorem z_tR {α:Type} (f:α->List (List UInt8)) (n:α->Nat) (k m:Nat): ∀l:List α,(∀x∈l,(catL (f x)).length<=k+n x*m)->(catL (l.flatMap f)).length<=l.length*k+(l.map n).sum*m
 | [],_=>Nat.zero_le _
 | a::r,h=>by
  have ih:=z_tR f n k m r (fun x hx=>h x (List.mem_cons_of_mem _ hx))
  have ha:=h a List.mem_cons_self
  rw [List.flatMap_cons,z_iy,List.length_append,List.length_cons,List.map_cons,List.sum_cons,Nat.add_mul,Nat.add_mul]
  omega
theorem z_vf {X:ASto} {Y:RA} (h:Jn X Y) (hp:RPl Y):(catL (bodyR Y)).length<=400+Y.cs.length*2651:=by
 unfold bodyR
 have hg:=h.great
 unfold greatN at hg
 have hd:=z_nm (n:=Y.last) (by rw [<-h.last];omega)
 have hl:(lnN Y.last).length=5+(Lib.decDigits Y.last).length:=by simp [lnN,lastW];omega
 have ht:=h.tlen
 have h8:=h.len
 rw [z_bX,List.length_append,List.length_cons]
 have hnd:Y.ts.Nodup:=h.tsp.nodup_iff.2 h.nd
 have key:=z_tR (fun t=>lnT t::(inTA Y.cs t).map lnU) (fun t=>(inTA Y.cs t).length) 40 2651 Y.ts (fun t ht=>by
  rw [z_bX,List.length_append,List.length_cons]
  have h1:=z_kN (hp.1 t ht)
  have h2:(lnT t).length=7+t.size:=by
   unfold lnT
   rw [List.length_append,List.length_cons]
   show 6+(t.size+1)=_
   omega
  have h4:(catL ((inTA Y.cs t).map lnU)).length<=(inTA Y.cs t).length*2651:=by
   have:=z_pj (fun c=>[lnU c]) 2651 (inTA Y.cs t) (fun c hc=>by
    have:=z_oH (h.lnOk hp (List.mem_filter.1 hc).1)
    rw [z_bX,List.length_append,List.length_cons]
    show (jn 32 (wdsU c)).length+((catL []).length+1)<=_
    show (jn 32 (wdsU c)).length+(0+1)<=_
    omega)
   rw [<-List.map_eq_flatMap] at this
   exact this
  omega)
 have hs:=z_tk Y.ts Y.cs hnd
 rw [List.length_flatMap] at hs
 have hm:=Nat.mul_le_mul_right 2651 hs
 omega
theorem BothS.short {n:Nat} {S:Sto} {R:RS} (h:BothS n S R) (hn:n<=30):(dumpR R.a).length<=99999/\69<=(dumpR R.a).length:=by
 have hb:=z_vf h.j h.p
 have e1:R.a.cs.length=R.cs.length:=List.length_map _
 have hc:=h.n
 have hm:=Nat.mul_le_mul_right 2651 (show R.a.cs.length<=30 by omega)
 unfold dumpR
 rw [List.length_append,z_cY]
 omega
theorem OpR.In.old {o:OpR} {w w':World} (h:o.In w) (ho:(oldF w).p w'):o.In w':=⟨h.s.old ho,Rd.old h.r ho,h.ct,h.cu,h.cr,h.cl⟩
theorem z_u2 {w:World} {Fs:List Fact} (ho: ∀f∈Fs,f.own=false) (hm:Mem w Fs):Mem w (oldF w::Fs):=by
 refine ⟨fun g hg=>?_,fun g hg k hk=>?_,List.pairwise_cons.2 ⟨fun g hg q=>?_,hm.sepf⟩⟩
 ·rcases List.mem_cons.1 hg with rfl | hg
  ·exact fun k _=>rfl
  ·exact hm.fact g hg
 ·rcases List.mem_cons.1 hg with rfl | hg
  ·exact hk
  ·exact hm.flt g hg k hk
 ·rcases q with q | q
  ·cases q
  ·rw [ho g hg] at q;cases q
set_option maxHeartbeats 1000000 in
theorem rollTurnedL_c (w:World) (A:Option Addr) (ops:List OpR) (cap k:Nat) (hk:k<65536) (y:UInt8) (hA:Rd 13 A ops.length (ops.flatMap OpR.cells) w) (hin: ∀o∈ops,o.In w) (hn:ops.length<=9223372036854775807) (hm:Mem w rollTabs):
  Con Tryz.prog z_bW #[.slice A ops.length cap,.int .u16 (k:Int),.int .u8 y.toNat] w [] fun v Fs=>v= .bool true/\Fs=[]:=by
 have g:=z_d4 w (Un [])
 refine z_lp (cx:=z_bG w (Un [])) g z_fw [.c (.v (.slice A ops.length cap)),.c (.v (.int .u16 (k:Int))),.c (.v (.int .u8 y.toNat))] (oldF w::rollTabs) (z_u2 (fun f hf=>by revert f;simp [rollTabs,oddF,firstF,mlF,errF,powF,namF];exact ⟨rfl,rfl,rfl,rfl⟩) hm) ?_ ⟨rfl,z_sz⟩
 refine z_ao g ?_
 refine z_ao g ?_
 refine z_ae (fun β w' hs=>z_ue w' (hs.mem.take (js:=[1,2,3,8]) rfl)) ?_
 refine z_ao g ?_
 refine z_aa [] (fun β w' hs=>z_s7 w' A ops cap 12 (Rd.old hA (hs.get 0 rfl)) (fun o ho=>(hin o ho).old (hs.get 0 rfl)) hn (by decide) (hs.mem.take (js:=[7]) rfl)) ?_
 rintro v Fs ⟨S,R,rfl,hB,rfl⟩
 obtain ⟨hl1,hl2⟩:=hB.short (by decide)
 refine z_ao g ?_
 refine z_vt (z_t9 g 2 _ rfl rfl rfl ?_)
 refine z_ae (v:= .string (mkS (dumpR R.a))) (fun β w' hs=>z_tj w' R hB.j hB.p hB.wf ((hs.asRo 1 rfl).mem.take (js:=[1,10]) rfl)) ?_
 intro bb c hc1 hc2
 obtain ⟨T,hT⟩: ∃T,dumpR R.a=T:=⟨_,rfl⟩
 rw [hT] at hl1 hl2 ⊢
 refine z_ce (ι:=UInt8) g (fun _=>True) 0 (fun y=>[(1,.c (.v (.int .u16 (k:Int)))),(2,.c (.v (.int .u8 y.toNat))),(10,.c (.v (.slice (some ⟨bb,0,none⟩) T.length c)))]) (fun _=>[]) (fun _=>wrF bb T::rollTabs) ?_ ?_
 rotate_left
 ·refine BIf.dec (fun _=>?_) (fun _=>?_)
  ·exact EntX.of 1 trivial (Ent.mk' ⟨rfl,rfl,rfl,trivial⟩ rfl (fun β w' hs=>hs.perm [0,4,5,6,7,8,9,10,11]))
  ·exact EntX.of y trivial (Ent.mk' ⟨rfl,rfl,rfl,trivial⟩ rfl (fun β w' hs=>hs.perm [0,4,5,6,7,8,9,10,11]))
 rintro z -
 refine z_ao g ?_
 obtain ⟨i,hi⟩: ∃i,k%T.length=i:=⟨_,rfl⟩
 have hiT:i<T.length:=hi▸Nat.mod_lt _ (by omega)
 refine ⟨(k:Int),by rw [wrap_i64 (by omega) (by omega)],?_⟩
 refine ⟨by omega,(i:Int),by rw [<-hi];exact Int.ofNat_tmod _ _,?_⟩
 refine ⟨_,i,rfl,rfl,hiT,byte T[i],fun β w hs=>Bs.cell (wr_rd (hs.get 0 rfl)) rfl hiT,?_⟩
 obtain ⟨u,hu⟩:=z_xk .xor (T[i].toNat:Int) (z.toNat:Int)
 refine ⟨_,hu,?_⟩
 refine ⟨_,i,rfl,rfl,hiT,?_⟩
 refine ⟨_,fun β w hs=>hs.wrSet (j:=0) rfl hiT u,?_⟩
 obtain ⟨T2,hT2,hl⟩: ∃T2,T.set i u=T2/\T2.length=T.length:=⟨_,rfl,List.length_set⟩
 rw [hT2]
 have hrd: ∀w',(wrF bb T2).p w'->Rd 1 (some ⟨bb,0,none⟩) T.length (T2.map byte) w':=fun w' h=>hl▸wr_rd h
 refine z_ao g ?_
 refine ⟨T2,fun β w hs=>hrd w (hs.get 0 rfl),?_⟩
 refine z_aa [] (fun β w' hs=>z_r1 w' T2 (by omega) (hs.mem.take (js:=[1,2,3,4,5,6,7]) rfl)) ?_
 rintro v Fs ⟨e,hce,⟨he0,rfl,rfl⟩ | ⟨he0,S,Y,hj,hp,hd,rfl,rfl⟩⟩
 ·refine z_ao g ?_
  refine ⟨T2,fun β w hs=>hrd w (hs.get 0 rfl),?_⟩
  refine z_aa [] (fun β w' hs=>z_uf w' T2 (by omega) (hs.mem.take (js:=[8]) rfl)) ?_
  rintro v Fs ⟨⟨e',hce',rfl⟩,rfl⟩
  obtain rfl:=z_ro ok_ok hce hce'
  refine BIf.dec (fun _=>?_) (fun h=>absurd rfl h)
  refine z_eT g ?_
  intro β w' hs
  refine hs.fin [] ⟨?_,rfl⟩
  show Value.bool (false==decide (e=0))=_
  rw [decide_eq_false he0]
  rfl
 ·subst he0
  refine z_ao g ?_
  refine ⟨T2,fun β w hs=>hrd w (hs.get 1 rfl),?_⟩
  refine z_aa [] (fun β w' hs=>z_uf w' T2 (by omega) (hs.mem.take (js:=[9]) rfl)) ?_
  rintro v Fs ⟨⟨e',hce',rfl⟩,rfl⟩
  obtain rfl:=z_ro ok_ok hce hce'
  refine z_eT g ?_
  intro β w' hs
  refine hs.fin [] ⟨?_,rfl⟩
  show Value.bool (true==decide ((0:Int)=0))=_
  rw [decide_eq_true rfl]
  rfl
theorem scriptR_of {w:World} {m:Nat} {A:Option Addr} {n c:Nat} (ho:Opens Tryz.prog w m z_io [.slice A n c]): ∃ops:List OpR,ops.length=n/\Rd 13 A ops.length (ops.flatMap OpR.cells) w/\(∀o∈ops,o.In w)/\n<=maxLen:=by
 obtain ⟨A',n',c',xs,m2,hcs,h1,h2,hxl,hnil,hlen,hr,hx⟩:=ho.slice ((ok38).real (d:= .slice z_ch) rfl rfl)
 simp only [List.cons.injEq,and_true] at hcs
 injection hcs with e1 e2 e3
 subst e1 e2 e3
 have cO:Tryz.prog.cellsOf z_ch=13:=by kernel_rfl
 have cU:Tryz.prog.cellsOf z_ab=1:=by kernel_rfl
 have cT:Tryz.prog.cellsOf z_ag=1:=by kernel_rfl
 have cB:Tryz.prog.cellsOf z_jL=1:=by kernel_rfl
 have cC:Tryz.prog.cellsOf z_af=10:=by kernel_rfl
 obtain ⟨ops,hol,hfl,hok⟩:=z_gy (f:=OpR.cells) (p:=fun o=>o.In w) (xs:=xs) (fun x hxm=>by
  obtain ⟨m3,hl,hf⟩:=(hx x hxm).structT (ok87) rfl
  have f0:=hf 0 0 1 z_ab rfl rfl
  have f1:=hf 1 1 10 z_af rfl rfl
  have f2:=hf 2 11 1 z_ag rfl rfl
  have f3:=hf 3 12 1 z_jL rfl rfl
  rw [cO] at hl
  rw [cU] at f0
  rw [cC] at f1
  rw [cT] at f2
  rw [cB] at f3
  obtain ⟨x0,r0,rfl,k0⟩:=z_a3 hl
  obtain ⟨d,hd⟩:=f0.u8 ((ok5).real (d:= .int .u8) rfl rfl)
  obtain ⟨z,hz,z1,z2,z3,z4,z5,z6,z7,z8⟩:=z_xU f1
  obtain ⟨r,hr,s3⟩:=f2.str ((ok9).real (d:= .string) rfl rfl)
  obtain ⟨on,hon⟩:=f3.bool ((ok4).real (d:= .bool) rfl rfl)
  have hz':r0.take 10=z.vs:=by simpa using hz
  have hr':(r0.drop 10).take 1=[.string r]:=by simpa using hr
  have hon':(r0.drop 11).take 1=[.bool on]:=by simpa using hon
  simp at hd
  have hsplit:r0=z.vs++[.string r,.bool on]:=by
   have a1:r0=r0.take 10++r0.drop 10:=(List.take_append_drop 10 r0).symm
   have a2:r0.drop 10=(r0.drop 10).take 1++(r0.drop 10).drop 1:=(List.take_append_drop 1 _).symm
   have a3:(r0.drop 10).drop 1=r0.drop 11:=by rw [List.drop_drop]
   have a4:(r0.drop 11).take 1=r0.drop 11:=List.take_of_length_le (by rw [List.length_drop];omega)
   rw [a1,a2,a3,hz',hr',<-a4,hon']
   rfl
  refine ⟨⟨d,z,r,on⟩,?_,⟨z2,z3,z4,z5,z6,z7⟩⟩
  rw [hsplit,hd]
  rfl)
 rw [cO,hfl] at hr
 rw [<-hxl,<-hol] at hr
 exact ⟨ops,hol.trans hxl,hr,hok,Nat.le_trans h1 h2⟩
end Go.Proofs.YtloeaiafphkjnaaGreatDoor.Sx
namespace Go.Proofs.YtloeaiafphkjnaaGreatDoor.Sx
open Go
def RoOk (w:World) (f:Fact):Prop:=f.own=false/\f.p w/\ ∀k,f.D k->k<w.heap.size
theorem mem_ro {w:World} {Fs:List Fact} (h: ∀f∈Fs,RoOk w f):Mem w Fs:=by
 refine ⟨fun f hf=>(h f hf).2.1,fun f hf k hk=>(h f hf).2.2 k hk,?_⟩
 induction Fs with
 | nil=>exact List.Pairwise.nil
 | cons f r ih=>
  refine List.pairwise_cons.2 ⟨fun g hg q=>?_,ih (fun g hg=>h g (List.mem_cons_of_mem _ hg))⟩
  rcases q with q | q
  ·rw [(h f List.mem_cons_self).1] at q;cases q
  ·rw [(h g (List.mem_cons_of_mem _ hg)).1] at q;cases q
theorem rd_ok {w:World} {size:Nat} {A:Option Addr} {k:Nat} {xs:List Value} (h:Rd size A k xs w):RoOk w (rdF size A k xs):=⟨rfl,h,rd_lt h⟩
theorem ro_nil {w:World}: ∀f∈([]:List Fact),RoOk w f:=fun f h=>by cases h
theorem ro_cons {w:World} {f:Fact} {r:List Fact} (h1:RoOk w f) (h2: ∀g∈r,RoOk w g): ∀g∈f::r,RoOk w g:=fun g hg=>by
 rcases List.mem_cons.1 hg with rfl | hg
 ·exact h1
 ·exact h2 g hg
theorem nam_ok {w:World} (f:Forms 10 w) (s5:(spansF 8 blanksL).p w) (s6:(spansF 9 nothingL).p w) (s4:(spansF 4 barredL).p w):RoOk w namF:=by
 refine ⟨rfl,fun g hg=>?_,fun k hk=>?_⟩
 ·simp only [List.mem_cons,List.not_mem_nil,or_false] at hg
  rcases hg with rfl | rfl | rfl | rfl
  ·exact f
  ·exact s5
  ·exact s6
  ·exact s4
 ·obtain ⟨g,hg,hk⟩:=hk
  simp only [List.mem_cons,List.not_mem_nil,or_false] at hg
  rcases hg with rfl | rfl | rfl | rfl
  ·exact rd_lt f k hk
  ·exact rd_lt s5 k hk
  ·exact rd_lt s6 k hk
  ·exact rd_lt s4 k hk
end Go.Proofs.YtloeaiafphkjnaaGreatDoor.Sx
namespace Go.Proofs.YtloeaiafphkjnaaGreatDoor.Sx
open Go
section
variable {H:Type} {enc:TypeId×Value->H} {w:World} {base:Nat} {sp:Nat->Bool} {held:Bool}
theorem pow_of {m n:Nat} {t e:TypeId} {cs:Array Value} {d:DataW H} {q:List MemPlace} (ht:Tryz.prog.underlying t=some (.array n e)) (he:Tryz.prog.underlying e=some (.int .u64)) (hce:Tryz.prog.cellsOf e=1) (hct:Tryz.prog.cellsOf t=n) (hdd:d=Lib.tabData .u64 Lib.pow10Tab)
  (hd : DataW.trod enc Tryz.prog w base sp held m t cs.toList = some (d, q)) (hv : w.var? Tryz.prog "internal/strconv.uint64pow10" = some cs) : powF.p w := by
 subst hdd
 show Lib.TabIs _ _ _ _ _
 unfold Lib.TabIs
 rw [hv,<-Lib.cells_of_tab ht he hce hct hd]
theorem err_of {P:Program} {m g:Nat} {t:TypeId} {cs:Array Value} {s:String} {d:DataW H} {q:List MemPlace} (hi:isIf (P.underlying t)=true)
  (hd:DataW.trod enc P w base sp held m t cs.toList=some (.iface s d,q)) (hcell: ∀j,w.cell? ⟨g,j,none⟩=cs[j]?):(errF g).p w:=by
 obtain ⟨ms,hms⟩: ∃ms,P.underlying t=some (.interface ms):=by
  unfold isIf at hi
  split at hi
  ·rename_i ms h;exact ⟨ms,h⟩
  ·cases hi
 cases m with
 | zero=>simp [DataW.trod] at hd
 | succ m=>
  have h0:w.cell? ⟨g,0,none⟩=cs.toList[0]?:=by rw [hcell 0,Array.getElem?_toList]
  generalize cs.toList=l at hd h0
  match l,hd,h0 with
  | [],hd,_=>simp [DataW.trod,hms] at hd
  | [v],hd,h0=>
   have h1:w.cell? ⟨g,0,none⟩=some v:=h0
   cases v with
   | nilIface=>exact ⟨_,h1,.inl rfl⟩
   | iface u x=>exact ⟨_,h1,.inr ⟨u,x,rfl⟩⟩
   | _=>simp [DataW.trod,hms] at hd
  | a::b::r,hd,_=>simp [DataW.trod,hms] at hd
end
theorem pow_ok {w:World} (h:powF.p w):RoOk w powF:=⟨rfl,h,fun k hk=>(z_gM h).flt powF (by simp) k hk⟩
theorem err_ok {w:World} {g:Nat} (h:(errF g).p w):RoOk w (errF g):=by
 refine ⟨rfl,h,fun k hk=>?_⟩
 obtain ⟨ev,hm,_⟩:=h
 obtain rfl:k=g:=hk
 unfold World.cell? at hm
 rcases Nat.lt_or_ge k w.heap.size with q | q
 ·exact q
 ·rw [Array.getElem?_eq_none q] at hm
  cases hm
end Go.Proofs.YtloeaiafphkjnaaGreatDoor.Sx
namespace Go.Proofs.YtloeaiafphkjnaaGreatDoor.Sx
open Go
theorem handed_shaped {H:Type} {enc:TypeId×Value->H} {a:Assume} {C:Checked} {os:Os} {f:FuncId} {fn:Func} {s:ChangeSpec} {conds:List PathCond} {apart fresh handsOn again:Bool} {X:World->Array Value->Prop}
  (hX: ∀(w w':World) (args:Array Value),w.heap=w'.heap->X w args->X w' args)
  (own:ownKnob C.prog.godebug=none) (started:os.Started) (noInit:C.prog.inits.idxOf? f=none) (hfn:C.prog.funcs[f]?=some fn)
  (witness: ∃(w:World) (tape:Tape) (i:Input),w.os=os/\(w.forCall tape i).Shaped C.prog/\i.vars=[]/\Input.okWide C.prog (w.forCall tape i) .any w.heap.size f i/\
   ((s.pre enc C.prog fn conds apart (w.forCall tape i).memory i.args/\X (w.forCall tape i).memory i.args)/\sizedMet enc C.prog fn (OpenSpec.ofChange s) apart (w.forCall tape i).memory i.args)/\a.holds C.prog (lone (Frame.enter C.prog f i.args .normal) [] (w.forCall tape i)))
  (key: ∀(W:World) (base:Nat) (args:Array Value) (ds gs:List (DataW H)) (before:List MemPlace),
   (∀(j:Nat) t v,fn.params[j]?=some t->args[j]?=some v->Value.okWide C.prog W .any base t v)->
   DataW.Whole enc C.prog fn.params.toList s.vars apart W args.toList ds gs before->X W args->W.ShapedOpen C.prog->
   Calls C.prog f args W fun e W'=> ∃v,e= .returned v/\s.post enc C.prog fn apart fresh handsOn again W args v W'):
  ReturnsInHanded a C os f .any (fun w args=>(s.pre enc C.prog fn conds apart w args/\X w args)/\sizedMet enc C.prog fn (OpenSpec.ofChange s) apart w args) (s.post enc C.prog fn apart fresh handsOn again):=by
 refine returnsInHanded_of_calls own started noInit witness (fun w tape i _ hshape _ hin hp _=>?_)
 obtain ⟨_,_,_,fn2,hfn2,_,_,_,_,hvals⟩:=hin
 obtain rfl:fn2=fn:=Option.some.inj (hfn2.symm.trans hfn)
 obtain ⟨⟨⟨ds,gs,before,hwh,_⟩,hx⟩,_⟩:=hp
 refine (key (w.forCall tape i) w.heap.size i.args ds gs before hvals (DataW.Whole.of_heap (w':=w.forCall tape i) (by rfl) hwh) (hX _ _ _ (by rfl) hx) hshape).mono fun e W' ⟨v,he,hq⟩=>?_
 subst he
 exact ChangeSpec.post_blind hq
theorem ml_of {w:World} (h:w.ShapedOpen Tryz.prog):mlF.p w:=
 cell_of_shapedOpen_int (P:=Tryz.prog) (g:=3) (t:=z_fy) (zero:= #[.int .i64 0]) h (of_decide_eq_true (by kernel_rfl)) (by kernel_rfl) rfl (by kernel_rfl) (by kernel_rfl) (ok3.real (d:= .int .i64) rfl rfl)
theorem ml_ok {w:World} (h:mlF.p w):RoOk w mlF:=by
 refine ⟨rfl,h,fun k hk=>?_⟩
 obtain ⟨m,hm⟩:=h
 obtain rfl:k=3:=hk
 unfold World.cell? at hm
 rcases Nat.lt_or_ge 3 w.heap.size with q | q
 ·exact q
 ·simp [Array.getElem?_eq_none q] at hm
end Go.Proofs.YtloeaiafphkjnaaGreatDoor.Sx
namespace Go.Proofs.YtloeaiafphkjnaaGreatDoor.Sx
open Go Go.RowKit
theorem below_of {w w':World} (h:Chg None_ w w'):Below w.heap.size w w':=
 ⟨h.os,h.tape,h.output,h.size,fun k hk=>h.same k hk (fun q=>q)⟩
end Go.Proofs.YtloeaiafphkjnaaGreatDoor.Sx
namespace Go.Proofs.YtloeaiafphkjnaaGreatDoor.Sx
open Go
theorem rd_of_ints {H:Type} {enc:TypeId×Value->H} {P:Program} {W:World} {base:Nat} {sp:Nat->Bool} {held:Bool} {fuel g n:Nat} {t e:TypeId} {k:IntKind} {cs:Array Value} {zs:List Int} {q:List MemPlace}
  (ht:P.underlying t=some (.array n e)) (he:P.underlying e=some (.int k)) (hc:P.cellsOf e=1) (hd:DataW.trod enc P W base sp held fuel t cs.toList=some (.agg (zs.map fun z=> .lit (.int k z)),q)) (hcell: ∀j,W.cell? ⟨g,j,none⟩=cs[j]?):
  Rd 1 (some ⟨g,0,none⟩) zs.length (zs.map (Value.int k)) W:=by
 obtain ⟨xs,m,_,hx,hlen,hn,hel⟩:=DataW.trod_array ht hd
 simp only [Prod.mk.injEq,DataW.agg.injEq] at hx
 have hzn:zs.length=n:=by
  have h9:=congrArg List.length hx.1
  simp only [List.length_map] at h9
  omega
 refine ⟨by simp,fun hp=>⟨_,rfl,fun j u hu=>?_⟩⟩
 rw [List.getElem?_map] at hu
 obtain ⟨z,hz,rfl⟩:=Option.map_eq_some_iff.1 hu
 have hj:j<zs.length:=(List.getElem?_eq_some_iff.1 hz).1
 have h1:=hel j (by omega)
 have h2:(xs.map (·.1))[j]?=some (.lit (.int k z)):=by rw [<-hx.1,List.getElem?_map,hz];rfl
 rw [List.getElem?_map] at h2
 obtain ⟨x,hxj,hx1⟩:=Option.map_eq_some_iff.1 h2
 rw [hxj,hc,Nat.mul_one] at h1
 obtain ⟨y,e1,e2,_⟩:=DataW.trod_int he h1
 have hy:y=z:=by
  rw [e2] at hx1
  simpa using hx1
 subst hy
 rw [z_a0,Nat.zero_add,hcell j,<-Array.getElem?_toList]
 have h3:=congrArg (fun l=>l[0]?) e1
 simpa [List.getElem?_drop] using h3
abbrev u32s (l:List UInt32):List Int:=l.map fun x=>(x.toNat:Int)
theorem rd_u32 {g:Nat} {W:World} {l:List UInt32} (h:Rd 1 (some ⟨g,0,none⟩) (u32s l).length ((u32s l).map (Value.int .u32)) W):Rd 1 (some ⟨g,0,none⟩) l.length (l.map u32) W:=by
 have e:(u32s l).map (Value.int .u32)=l.map u32:=by rw [List.map_map];rfl
 rw [e,List.length_map] at h
 exact h
end Go.Proofs.YtloeaiafphkjnaaGreatDoor.Sx
namespace Go.Proofs.YtloeaiafphkjnaaGreatDoor.Sx
open Go
mutual
def lits {H:Type}:DataW H->Option (List Value)
 | .lit (.int k n)=>some [.int k n]
 | .lit (.bool b)=>some [.bool b]
 | .lit (.string l)=>some [.string ⟨l.toArray⟩]
 | .agg ps=>litsL ps
 | _=>none
def litsL {H:Type}:List (DataW H)->Option (List Value)
 | []=>some []
 | d::r=>match lits d,litsL r with
  | some a,some b=>some (a++b)
  | _,_=>none
end
def contig (P:Program):List Field->Nat->Option Nat
 | [],o=>some o
 | f::r,o=>if f.offset=o then contig P r (o+P.cellsOf f.type) else none
def flatB (P:Program):Nat->TypeId->Bool
 | 0,_=>false
 | n+1,t=>match P.underlying t with
  | some (.int _) | some .bool | some .string=>true
  | some (.struct fs)=>(match contig P fs.toList 0 with | some e=>Nat.beq e (P.cellsOf t) | none=>false)&&fs.toList.all fun f=>flatB P n f.type
  | some (.array m e)=>Nat.beq (m*P.cellsOf e) (P.cellsOf t)&&flatB P n e
  | _=>false
section
variable {H:Type} {enc:TypeId×Value->H} {P:Program} {w:World} {base:Nat} {sp:Nat->Bool} {held:Bool}
theorem z_ow (m:Nat) (cs:List Value): ∀(fs:List Field) (xs:List (DataW H×List MemPlace)) (o e:Nat),contig P fs o=some e->xs.length=fs.length->
  (∀(i:Nat) (f:Field),fs[i]?=some f->DataW.trod enc P w base sp held m f.type ((cs.drop f.offset).take (P.cellsOf f.type))=xs[i]?)->
  (∀f∈fs,∀cs' x,DataW.trod enc P w base sp held m f.type cs'=some x->lits x.1=some cs')->o<=e/\litsL (xs.map (·.1))=some ((cs.drop o).take (e - o))
 | [],xs,o,e,hc,hl,_,_=>by
  obtain rfl:=Option.some.inj hc
  obtain rfl:=List.eq_nil_of_length_eq_zero hl
  exact ⟨Nat.le_refl _,by simp [litsL]⟩
 | f::r,[],o,e,hc,hl,_,_=>by cases hl
 | f::r,x::xs,o,e,hc,hl,h,ih=>by
  simp only [contig] at hc
  split at hc
  ·rename_i ho
   have h0:=h 0 f rfl
   rw [ho] at h0
   have h1:=ih f List.mem_cons_self _ x h0
   obtain ⟨h2,h3⟩:=z_ow m cs r xs _ e hc (by simpa using hl) (fun i g hg=>by
    have:=h (i+1) g (by simpa using hg)
    simpa using this) (fun g hg=>ih g (List.mem_cons_of_mem _ hg))
   refine ⟨by omega,?_⟩
   simp only [List.map_cons,litsL,h1,h3]
   congr 1
   have e1:e - o=P.cellsOf f.type+(e - (o+P.cellsOf f.type)):=by omega
   rw [e1,List.take_add,List.drop_drop]
  ·cases hc
theorem z_pm (m k:Nat) (ty:TypeId) (cs:List Value) (hk:P.cellsOf ty=k): ∀(n:Nat) (xs:List (DataW H×List MemPlace)) (o:Nat),xs.length=n->
  (∀i,i<n->DataW.trod enc P w base sp held m ty ((cs.drop (o+i*k)).take k)=xs[i]?)->
  (∀cs' x,DataW.trod enc P w base sp held m ty cs'=some x->lits x.1=some cs')->litsL (xs.map (·.1))=some ((cs.drop o).take (n*k))
 | 0,xs,o,hl,_,_=>by
  obtain rfl:=List.eq_nil_of_length_eq_zero hl
  simp [litsL]
 | n+1,[],o,hl,_,_=>by cases hl
 | n+1,x::xs,o,hl,h,ih=>by
  have h0:=h 0 (Nat.succ_pos _)
  rw [Nat.zero_mul,Nat.add_zero] at h0
  have h1:=ih _ x h0
  have h3:=z_pm m k ty cs hk n xs (o+k) (by simpa using hl) (fun i hi=>by
   have:=h (i+1) (by omega)
   rw [Nat.succ_mul,Nat.add_comm (i*k) k,<-Nat.add_assoc] at this
   simpa using this) ih
  simp only [List.map_cons,litsL,h1,h3]
  congr 1
  rw [Nat.succ_mul,Nat.add_comm (n*k) k,List.take_add,List.drop_drop]
theorem z_oF: ∀(k m:Nat) (t:TypeId) (cs:List Value) (x:DataW H×List MemPlace),flatB P k t=true->DataW.trod enc P w base sp held m t cs=some x->lits x.1=some cs
 | 0,_,_,_,_,h,_=>by cases h
 | k+1,m,t,cs,x,h,hd=>by
  unfold flatB at h
  split at h
  ·rename_i ht
   obtain ⟨n,rfl,rfl,_⟩:=DataW.trod_int ht hd
   rfl
  ·rename_i ht
   obtain ⟨n,rfl,rfl⟩:=DataW.trod_bool ht hd
   rfl
  ·rename_i ht
   obtain ⟨s,rfl,rfl,_⟩:=DataW.trod_string ht hd
   cases s with | mk a=>simp [lits,ByteArray.toList_eq]
  ·rename_i fs ht
   obtain ⟨xs,n,rfl,rfl,hl,hxl,hel⟩:=DataW.trod_struct ht hd
   simp only [Bool.and_eq_true] at h
   obtain ⟨hcon,hall⟩:=h
   cases hc:contig P fs.toList 0 with
   | none=>rw [hc] at hcon;cases hcon
   | some e=>
    rw [hc] at hcon
    have he:=Nat.eq_of_beq_eq_true hcon
    subst he
    have:=(z_ow n cs fs.toList xs 0 _ hc (by simpa using hxl) (fun i f hf=>hel i f (by simpa using hf)) (fun f hf cs' x' hx=>z_oF k n f.type cs' x' (List.all_eq_true.1 hall f hf) hx)).2
    simp only [lits,this,List.drop_zero,Nat.sub_zero]
    rw [<-hl,List.take_length]
  ·rename_i n e ht
   obtain ⟨xs,m',rfl,rfl,hl,hxl,hel⟩:=DataW.trod_array ht hd
   simp only [Bool.and_eq_true] at h
   have he:=Nat.eq_of_beq_eq_true h.1
   have:=z_pm m' (P.cellsOf e) e cs rfl n xs 0 hxl (fun i hi=>by rw [Nat.zero_add];exact hel i hi) (fun cs' x' hx=>z_oF k m' e cs' x' h.2 hx)
   simp only [lits,this,List.drop_zero,he]
   rw [<-hl,List.take_length]
  ·cases h
theorem rd_of_laid {g n size m:Nat} {t:TypeId} {cs:Array Value} {d:DataW H} {q:List MemPlace} {vs:List Value} (hf:flatB P 5 t=true) (hv:lits d=some vs) (hn:vs.length=n*size)
  (hd:DataW.trod enc P w base sp held m t cs.toList=some (d,q)) (hcell: ∀j,w.cell? ⟨g,j,none⟩=cs[j]?):Rd size (some ⟨g,0,none⟩) n vs w:=by
 have h:=z_oF 5 m t _ _ hf hd
 rw [hv] at h
 have h':=Option.some.inj h
 refine ⟨hn,fun _=>⟨_,rfl,fun j u hu=>?_⟩⟩
 rw [z_a0,Nat.zero_add,hcell j,<-Array.getElem?_toList,<-h']
 exact hu
end
end Go.Proofs.YtloeaiafphkjnaaGreatDoor.Sx
