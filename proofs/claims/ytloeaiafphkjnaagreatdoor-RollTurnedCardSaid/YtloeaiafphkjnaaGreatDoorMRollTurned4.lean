/- Texts joined: Sto5, Sto6, Sto7, BsG, InsG, DelG, StoG, LdP, SxTri, TrR, Load, CutN, R14a, Rn1, Rn2, Rn3, Rn4, Rn5, Pd4R, MkR, R14b, R14c, R14d, R14e, R14f, R14g, R14h, R14i, R14j, JnP. -/
import Derived.Test.YtloeaiafphkjnaaGreatDoorMRollTurned3
import Derived.Sort.Walk0
import Derived.Lib.Builder
import Derived.Shelf.Spec.SlicesInsert
import Derived.Shelf.Spec.SlicesInsertGrow
import Derived.Test.YtloeaiafphkjnaaGreatDoorMRollTurned2
set_option linter.unusedVariables false
set_option linter.unusedSimpArgs false
namespace Go.Proofs.YtloeaiafphkjnaaGreatDoor.Sx
open Go
attribute [local irreducible] Calls
structure At (S:Sto) (t u:ByteArray) (A:List Ten) (T:Ten) (B:List Ten) (U:List Crd) (c:Crd) (V:List Crd):Prop where
 ten:S.ts=A++T::B
 crd:T.us=U++c::V
 name:T.name=t
 user:c.user=(nameA u).1
 fine:(nameA u).2=0
 is:aone S.a t u=some c.a
 upd: ∀c':Crd,∀f:ACrd->ACrd,c'.user=c.user->c'.a=f c.a->(A++ {T with us:=U++c'::V}::B).map Ten.a=atenU S.a.ts t (fun us=>ausrU us (nameA u).1 f)
 del:(A++ {T with us:=U++V}::B).map Ten.a=atenU S.a.ts t (fun us=>ausrD us (nameA u).1)
 mdel:(U++V).map (fun c:Crd=>(c.user,ptr c.b))=Sx.mdel T.m (nameA u).1
 look:mlook S.ml t=some (.map (some T.b))
theorem z_o9 {S:Sto} {t u:ByteArray} {c:Crd} (h:S.usr t u=some c): ∃A T B U V,At S t u A T B U c V:=by
 unfold Sto.usr at h
 split at h
 ·rename_i he
  rcases z_cW t S.ts with ⟨A,T,B,eT,h0,h1,h2,h3,h4,_⟩ | ⟨h1,h2,h3⟩
  ·rw [h0] at h
   have h':crdO T.us (nameA u).1=some c:=h
   rcases z_iz (nameA u).1 T.us with ⟨U,c',V,eU,q0,q1,q2,q3,q4,q5,q6,q7⟩ | ⟨q1,q2,q3⟩
   ·rw [q0] at h'
    obtain rfl:=Option.some.inj h'
    refine ⟨A,T,B,U,V,eT,eU,h1,q1,he,?_,fun c1 f e1 e2=>?_,?_,q6,h2⟩
    ·unfold aone aget
     rw [if_pos he,show aten S.a.ts t=_ from h3]
     exact q3
    ·refine h4 {T with us:=U++c1::V} (fun us=>ausrU us (nameA u).1 f) h1 ?_
     exact q4 c1 f (e1.trans q1) e2
    ·exact h4 {T with us:=U++V} (fun us=>ausrD us (nameA u).1) h1 q5
   ·rw [q3] at h';cases h'
  ·rw [h3] at h;cases h
 ·cases h
theorem z_oS {S:Sto} {t u:ByteArray} (h:S.usr t u=none):aone S.a t u=none:=by
 unfold Sto.usr at h
 unfold aone aget
 split at h
 ·rename_i he
  rw [if_pos he]
  rcases z_cW t S.ts with ⟨A,T,B,eT,h0,h1,h2,h3,_⟩ | ⟨h1,h2,h3⟩
  ·rw [h0] at h
   have h':crdO T.us (nameA u).1=none:=h
   rw [show aten S.a.ts t=_ from h3]
   rcases z_iz (nameA u).1 T.us with ⟨U,c',V,eU,q0,q1,q2,q3,_⟩ | ⟨q1,q2,q3⟩
   ·rw [q0] at h';cases h'
   ·exact q2
  ·rw [show aten S.a.ts t=none from h2];rfl
 ·rename_i he
  rw [if_neg he]
theorem At.crdP {S:Sto} {t u:ByteArray} {A B:List Ten} {T:Ten} {U V:List Crd} {c:Crd} {w:World} (h:At S t u A T B U c V) (hp:(stoF S).p w):(crdF c).p w:=z_tc (z_jV hp h.ten) h.crd
theorem z_xf {c:Crd} {w:World} (h:(crdF c).p w):SRd c.sec.x c.sec.a w:=Sec.rd fun f hf=>h.1 f (by
 unfold Crd.fs Crd.parts
 exact List.mem_cons_of_mem _ (List.mem_cons_of_mem _ hf))
theorem z_o4 {c:Crd} {w:World} (h:(crdF c).p w):Rd 1 c.rA c.roles.length (strs c.roles) w:=h.1 (strsF c.rA c.roles) (by simp [Crd.fs,Crd.parts])
theorem strsRow {A:Option Addr} {l:List ByteArray} {c:Nat} {w:World} (h:(srowF A l c).p w):(strsF A l).p w:=z_an h
theorem strsRowD {A:Option Addr} {l:List ByteArray} {c:Nat} {w:World} (h:(srowF A l c).p w): ∀k,(strsF A l).D k->(srowF A l c).D k:=by
 rintro k ⟨hk,ad,q,rfl⟩
 have hl:0<l.length:=by
  have:0<l.length*1:=hk
  omega
 have q':A=some ad:=q
 rcases h.2 with ⟨he,h0⟩ | ⟨g,cap,cur,he,_⟩
 ·omega
 ·have hA:A=some ⟨g,0,none⟩:=by injection he
  rw [q'] at hA
  obtain rfl:=Option.some.inj hA
  show Value.ownBlock (.slice A l.length c)=_
  rw [q']
  rfl
theorem Sat.strsRow {cx:Cx} {β:Va} {n:Nat} {H:List Bk} {F:List Fact} {w:World} (h:Sat cx β n H F w) (j:Nat) {A:Option Addr} {l:List ByteArray} {c:Nat} (hj:nth F j=some (srowF A l c)):Sat cx β n H (putAt F j (strsF A l)) w:=by
 have hp:=h.get j hj
 exact h.upd hj rfl (Chg.refl _ _) (z_an hp) (fun k hk=> .inl (strsRowD hp k hk))
structure CSz (a:ACrd):Prop where
 sec:ASz a.sec
 roles:a.roles.length<=1000000
def Crd.ss (c:Crd):List SL:= .v (.string c.tenant):: .v (.string c.user)::(c.sec.x.ss++[.v (.int .u64 c.gen),.v (.slice c.rA c.roles.length c.rc),.v (.bool c.revoked)])
theorem z_uj (w:World) (c:Crd) (h1:SRd c.sec.x c.sec.a w) (h2:Rd 1 c.rA c.roles.length (strs c.roles) w) (hz:CSz c.a):
  Con Tryz.prog z_cr #[.agg c.vs.toArray] w [] fun v Fs=> ∃c':Crd,c'.a=c.a/\v= .agg c'.vs.toArray/\Fs=[srowF c'.rA c'.roles c'.rc,c'.sec.ha1.f,c'.sec.server.f,c'.sec.stored.f,c'.sec.salt.f]:=by
 have g:=z_de w (Un [])
 refine z_ac (cx:=z_aV w (Un [])) g z_fa rfl rfl (β:=Va.z) [.agg c.ss] 0 [] [oldF w] rfl rfl (z_ay rfl) ?_
 have hS: ∀ {n:Nat} {F:List Fact},Sub (z_aV w (Un [])) n [⟨1,z_ak,ti100.zero.map SL.v⟩,⟨0,z_ak,c.ss⟩] F [⟨0,z_ak,c.ss⟩] []:=fun {n F}=>Sub.of (List.sublist_cons_self _ _) (List.nil_sublist _)
 refine z_aj g z_dF (by kernel_rfl) [⟨0,z_ak,c.ss⟩] [] hS ?_
 refine z_aa [] (fun β w' hs=>z_pl w' c.sec.x c.sec.a (h1.old (hs.get 0 rfl)) hz.sec) ?_
 rintro v Fs ⟨y,hy,rfl,rfl⟩
 refine ⟨hS,?_⟩
 refine z_aa [] (fun β w' hs=>z_re w' c.rA c.roles c.rc (Rd.old h2 (hs.get 4 rfl)) hz.roles) ?_
 rintro v Fs ⟨A',c',rfl,_,_,rfl⟩
 refine ⟨hS,?_⟩
 intro β w' hs
 refine (hs.keepB (List.nil_sublist _)).fin [0,1,2,3,4] ⟨⟨0,c.tenant,c.user,y,c.gen,A',c',c.roles,c.revoked⟩,?_,rfl,rfl⟩ rfl rfl rfl ⟨rfl,rfl,rfl,rfl,rfl,trivial⟩
 show ACrd.mk _ _ y.a _ _ _=ACrd.mk _ _ _ _ _ _
 rw [hy]
def crdRows (c:Crd):List Fact:=[srowF c.rA c.roles c.rc,c.sec.ha1.f,c.sec.server.f,c.sec.stored.f,c.sec.salt.f]
theorem add2 (b o j:Nat):((⟨b,o,none⟩:Addr).add j)=⟨b,o+j,none⟩:=by rw [z_a0]
theorem z_l1 {s:ByteArray}: ∀ {es:List ME} {i:Nat},fnd s es i=none->mdel (es.map ME.cut) s=es.map ME.cut
 | [],_,_=>rfl
 | e::r,i,h=>by
  simp only [fnd] at h
  split at h
  ·cases h
  ·rename_i hne
   simp only [List.map_cons,mdel,ME.cut,if_neg hne]
   exact congrArg (List.cons _) (z_l1 h)
theorem z_pL {α:Type} (x:α) (c:List α): ∀a:List α,(a++x::c).eraseIdx a.length=a++c
 | []=>rfl
 | y::a=>by simp [z_pL x c a]
theorem z_xZ {P:Program} {t tk kt et:TypeId} (ht:P.underlying t=some (.map kt et)) (hk:P.underlying kt=some .string) {w:World} {b:Nat} {l:ML} (h:mapP b l w) (s:ByteArray) (ty:TypeId) (cst:Array Bool):
  ∃o,(builtin .delete #[t,tk] ty cst #[.map (some b),.string s]).run P w= .ok (.value (.tuple #[])) (w.putObj b o)/\mapP b (mdel l s) (w.putObj b o):=by
 obtain ⟨es,k,hb,hm⟩:=h
 have hlt:b<w.heap.size:=(Array.getElem?_eq_some_iff.1 hb).1
 have hg:(getObj b).run P w= .ok (.map (es.map ME.ent).toArray k) w:=MapKept.run_getObj_map hb
 have hput: ∀o,(w.putObj b o).heap[b]?=some o:=fun o=>World.putObj_heap_same hlt
 cases hf:fnd s es 0 with
 | none=>
  refine ⟨.map (es.map ME.ent).toArray k,?_,es,k,hput _,?_,hm.inc,hm.lt⟩
  ·have h1:=MapKept.run_setObj_map (P:=P) (.map (es.map ME.ent).toArray k) hb
   have h2:=run_findKey (P:=P) hk s es w
   rw [hf] at h2
   have h1':(setObj b (.map (es.map ME.ent).toArray k)).run P w= .ok () (w.putObj b (.map (es.map ME.ent).toArray k)):=h1
   simp only [builtin,Builtin.delete_,Sem.run_bind,run_underlying ht,hg,run_checkKey hk,h2,Result.andThen_ok,Sem.run_pure,List.getElem?_toArray,List.getElem?_cons_zero,List.getElem?_cons_succ,h1']
  ·rw [<-hm.cut];exact (z_l1 hf).symm
 | some q=>
  obtain ⟨j,u⟩:=q
  obtain ⟨a,c,t0,rfl,hj,_,h2⟩:=z_oV hf
  rw [Nat.zero_add] at hj
  subst hj
  have he:((a++(s,u,t0)::c).map ME.ent).toArray.eraseIdxIfInBounds a.length=((a++c).map ME.ent).toArray:=by
   apply Array.ext'
   have:=z_pL (ME.ent (s,u,t0)) (c.map ME.ent) (a.map ME.ent)
   rw [List.length_map] at this
   simp [Array.eraseIdxIfInBounds,List.map_append,this]
  refine ⟨.map ((a++c).map ME.ent).toArray k,?_,a++c,k,hput _,by rw [h2,hm.cut],?_,fun e he'=>hm.lt e ?_⟩
  ·have h1:=MapKept.run_setObj_map (P:=P) (.map ((a++c).map ME.ent).toArray k) hb
   have h3:=run_findKey (P:=P) hk s (a++(s,u,t0)::c) w
   rw [hf] at h3
   have h1':(setObj b (.map ((a++c).map ME.ent).toArray k)).run P w= .ok () (w.putObj b (.map ((a++c).map ME.ent).toArray k)):=h1
   simp only [builtin,Builtin.delete_,Sem.run_bind,run_underlying ht,hg,run_checkKey hk,h3,Result.andThen_ok,Sem.run_pure,List.getElem?_toArray,List.getElem?_cons_zero,List.getElem?_cons_succ,he,h1']
  ·have:=hm.inc
   rw [List.map_append,List.map_cons] at this
   rw [List.map_append]
   exact this.sublist ((List.sublist_cons_self _ _).append_left _)
  ·rcases List.mem_append.1 he' with q | q
   ·exact List.mem_append_left _ q
   ·exact List.mem_append_right _ (List.mem_cons_of_mem _ q)
theorem Sat.mapDel {cx:Cx} {β:Va} {n:Nat} {H:List Bk} {F:List Fact} {w:World} (h:Sat cx β n H F w) (g:Good cx) (j:Nat) {b:Nat} {l:ML} (hj:nth F j=some (mapF b l)) {t tk kt et:TypeId} {i ik:TI} (s:ByteArray) (ty:TypeId) (cst:Array Bool) (hi:lk cx.tt t=some i:=by rfl) (hd:i.desc= .map kt et:=by rfl) (hik:lk cx.tt kt=some ik:=by rfl) (hdk:ik.desc= .string:=by rfl):
  ∃w',(builtin .delete #[t,tk] ty cst #[.map (some b),.string s]).run cx.P w= .ok (.value (.tuple #[])) w'/\Sat cx β n H (putAt F j (mapF b (mdel l s))) w':=by
 obtain ⟨o,e1,e2⟩:=z_xZ (P:=cx.P) (tk:=tk) ((g.ti hi).real (d:= .map _ _) hd rfl) ((g.ti hik).real (d:= .string) hdk rfl) (h.get j hj) s ty cst
 exact ⟨_,e1,h.upd hj rfl (z_ts o) e2 (fun k hk=> .inl hk)⟩
theorem z_t3 {c0:Cx} {w:World} {S:Sto} {A B:List Ten} {T:Ten} {us:List Crd} {last:Nat} {mm:ML} (hT:S.ts=A++T::B) (hn:mm=us.map fun c:Crd=>(c.user,ptr c.b))
  (h0:Sat c0 Va.z 0 [] [bkF S.b z_am [.map (some S.m),.int .u64 (last:Int),.int .u64 S.reads],mapF T.b mm,sepF (us.map crdF),mapF S.m S.ml,sepF ((A++B).map tenF)] w):
  Sat c0 Va.z 0 [] [stoF {S with ts:=A++ {T with us:=us}::B,last:=last}] w:=by
 subst hn
 have h4:=h0.sep [1,2]
 have h4':Sat c0 Va.z 0 [] [tenF {T with us:=us},bkF S.b z_am [.map (some S.m),.int .u64 (last:Int),.int .u64 S.reads],mapF S.m S.ml,sepF (A.map tenF++B.map tenF)] w:=by
  rw [<-List.map_append]
  exact h4
 have h5:=h4'.blur 0 3 (A:=A.map tenF) (B:=B.map tenF) (x:=tenF {T with us:=us}) rfl rfl rfl (by decide)
 have h6:=h5.sep [1,2,0]
 have e:stoF {S with ts:=A++ {T with us:=us}::B,last:=last}=sepF [bkF S.b z_am [.map (some S.m),.int .u64 (last:Int),.int .u64 S.reads],mapF S.m S.ml,sepF (A.map tenF++tenF {T with us:=us}::B.map tenF)]:=by
  unfold stoF Sto.ml
  rw [hT]
  simp [Sto.vs]
 rw [e]
 exact h6
def dropU (X:ASto) (t u:ByteArray):Int×ASto:=match aone X t u with
 | none=>(6,X)
 | some _=>(0,{X with ts:=atenU X.ts t (fun us=>ausrD us (nameA u).1)})
theorem z_yB (w:World) (S:Sto) (t u:ByteArray) (hu:u.size<=100000) (hm:Mem w [stoF S,namF]):Con Tryz.prog z_fY #[ptr S.b,.string t,.string u] w [stoF S] (stoOut S (dropU S.a t u)):=by
 have g:=z_iR w (Un [stoF S])
 refine z_ac (cx:=z_fh w (Un [stoF S])) g z_lv rfl rfl (β:=Va.z) [.c (.v (ptr S.b)),.c (.v (.string t)),.c (.v (.string u))] 0 [] [stoF S,namF] rfl rfl (hm.sat0 rfl (ownIn (Gs:=[stoF S]) (fun f hf=>by
  obtain rfl:=List.mem_singleton.1 hf;rfl))) ?_
 cases hc:S.usr t u with
 | none=>
  refine z_ae (v:= .pointer none) (fun β w' hs=>by
   have h:=get_c w' S t u (hs.get 0 rfl) (hs.getLt 0 rfl) hu (z_nF (hs.get 1 rfl))
   rw [hc] at h
   exact h) ?_
  intro β w' hs
  refine hs.fin [0] (z_aw ?_)
  unfold dropU
  rw [z_oS hc]
 | some c=>
  obtain ⟨A,T,B,U,V,at_⟩:=z_o9 hc
  refine z_vQ (v:=ptr c.b) (fun β w' hs=>by
   have h:=get_c w' S t u (hs.get 0 rfl) (hs.getLt 0 rfl) hu (z_nF (hs.get 1 rfl))
   rw [hc] at h
   exact h) [] [mapF S.m S.ml,sepF ((A++B).map tenF),mapF T.b T.m,sepF ((U++V).map crdF),bkF S.b z_am S.vs,bkF c.b z_ak c.vs,sepF c.parts,namF] (fun β w' hs=>(hs.recut [0] (z_o5 at_.ten at_.crd)).unsep 3 rfl) ?_
  refine z_aj g z_jF (by kernel_rfl) [] [mapF S.m S.ml,bkF S.b z_am S.vs,bkF c.b z_ak c.vs] (subPerm [0,4,5]) ?_
  refine ⟨.map (some S.m),fun β w' hs=>bkc (hs.get 1 rfl) rfl,?_⟩
  refine ⟨.map none,fun w=>z_rs w,S.ml,some (.map (some T.b)),fun β w' hs=>hs.get 0 rfl,at_.look,?_⟩
  refine ⟨.string c.user,fun β w' hs=>bkc (hs.get 2 rfl) rfl,?_⟩
  refine ⟨[],[mapF S.m S.ml,sepF ((A++B).map tenF),mapF T.b (mdel T.m c.user),sepF ((U++V).map crdF),bkF S.b z_am S.vs,bkF c.b z_ak c.vs,sepF c.parts,namF],.c (.v (.tuple #[])),fun β w' ty hs=>hs.mapDel g 2 rfl (t:=z_aS) (tk:=z_ag) c.user ty #[false,false],trivial,?_⟩
  refine ⟨subPerm [0,4,5],?_⟩
  intro β w' hs
  have e1:mdel T.m c.user=(U++V).map fun c:Crd=>(c.user,ptr c.b):=by rw [at_.mdel,at_.user]
  have k:=(hs.perm [4,2,3,0,1,7]).recut [0,1,2,3,4] (Fs:=[stoF {S with ts:=A++ {T with us:=U++V}::B}]) (z_t3 (us:=U++V) (last:=S.last) at_.ten e1) rfl rfl ⟨rfl,rfl,rfl,rfl,rfl,trivial⟩ ⟨rfl,trivial⟩
  refine k.fin [0] ⟨{S with ts:=A++ {T with us:=U++V}::B},?_,?_,rfl,rfl⟩
  ·unfold dropU;rw [at_.is];rfl
  ·unfold dropU
   rw [at_.is]
   show ASto.mk _ _ _=ASto.mk _ _ _
   rw [at_.del]
   rfl
def dropT (X:ASto) (t:ByteArray):Int×ASto:=match aten X.ts t with
 | none=>(6,X)
 | some _=>(0,{X with ts:=atenD X.ts t})
theorem z_pq (w:World) (S:Sto) (t:ByteArray) (hm:Mem w [stoF S]):Con Tryz.prog z_cg #[ptr S.b,.string t] w [stoF S] (stoOut S (dropT S.a t)):=by
 have g:=z_eR w (Un [stoF S])
 refine z_ac (cx:=z_b9 w (Un [stoF S])) g z_gC rfl rfl (β:=Va.z) [.c (.v (ptr S.b)),.c (.v (.string t))] 0 [] [stoF S] rfl rfl (hm.sat0 rfl (fun f hf ho k hk=>⟨f,hf,hk⟩)) ?_
 rcases z_cW t S.ts with ⟨A,T,B,eT,h0,h1,h2,h3,h4,h5,h6⟩ | ⟨h1,h2,h3⟩
 ·refine z_ae (v:= .map (some T.b)) (fun β w' hs=>by
   have h:=z_hV w' S t (hs.get 0 rfl) (hs.getLt 0 rfl)
   rw [h0] at h
   exact h) ?_
  refine ⟨.map (some S.m),fun β w' hs=>bkc (z_gX (hs.get 0 rfl)) rfl,?_⟩
  refine ⟨[],[stoF {S with ts:=A++B}],.c (.v (.tuple #[])),fun β w' ty hs=>?_,trivial,?_⟩
  ·have k1:=hs.unsep 0 rfl
   obtain ⟨w2,k2,k3⟩:=k1.mapDel g 1 rfl (t:=z_az) (tk:=z_ag) t ty #[false,false]
   have k4:=k3.focus 2 (A:=A.map tenF) (B:=B.map tenF) (x:=tenF T) (by show some (sepF (S.ts.map tenF))=_;rw [eT,List.map_append,List.map_cons]) rfl
   have k5:=k4.sep [2,3,1]
   have e:stoF {S with ts:=A++B}=sepF [bkF S.b z_am S.vs,mapF S.m (mdel S.ml t),sepF (A.map tenF++B.map tenF)]:=by
    unfold stoF Sto.ml
    rw [<-h6]
    simp [Sto.vs]
   rw [e]
   exact ⟨w2,k2,k5.perm [0]⟩
  ·intro β w' hs
   refine hs.fin [0] ⟨{S with ts:=A++B},?_,?_,rfl,rfl⟩
   ·unfold dropT;rw [show aten S.a.ts t=_ from h3];rfl
   ·unfold dropT
    rw [show aten S.a.ts t=_ from h3]
    show ASto.mk _ _ _=ASto.mk _ _ _
    rw [h5]
    rfl
 ·refine z_ae (v:= .map none) (fun β w' hs=>by
   have h:=z_hV w' S t (hs.get 0 rfl) (hs.getLt 0 rfl)
   rw [h3] at h
   exact h) ?_
  intro β w' hs
  refine hs.fin [0] (z_aw ?_)
  unfold dropT
  rw [show aten S.a.ts t=none from h2]
def updU (X:ASto) (t u:ByteArray) (f:ACrd->ACrd):ASto:= {X with ts:=atenU X.ts t (fun us=>ausrU us (nameA u).1 fun c=> {f c with gen:=X.last+1}),last:=X.last+1}
def revU (X:ASto) (t u:ByteArray) (b:Bool):Int×ASto:=match aone X t u with
 | none=>(6,X)
 | some _=>if greatN<=X.last then (8,X) else (0,updU X t u fun c=> {c with revoked:=b})
theorem z_no {c0:Cx} {w:World} {S:Sto} {t u:ByteArray} {A B:List Ten} {T:Ten} {U V:List Crd} {c c':Crd} (at_:At S t u A T B U c V) (hb:c'.b=c.b) (hu:c'.user=c.user)
  (h0:Sat c0 Va.z 0 [] [bkF S.b z_am [.map (some S.m),.int .u64 ((S.last+1:Nat):Int),.int .u64 S.reads],bkF c.b z_ak c'.vs,sepF c'.parts,restF S.m S.ml (A++B) T.b T.m (U++V)] w):
  Sat c0 Va.z 0 [] [stoF {S with ts:=A++ {T with us:=U++c'::V}::B,last:=S.last+1}] w:=
 z_wa (S:=S) (S':= {S with ts:=A++ {T with us:=U++c'::V}::B,last:=S.last+1}) at_.ten at_.crd hb hu rfl h0
theorem z_u0 (w:World) (S:Sto) (t u:ByteArray) (b:Bool) (hu:u.size<=100000) (hm:Mem w [stoF S,namF]):Con Tryz.prog z_el #[ptr S.b,.string t,.string u,.bool b] w [stoF S] (stoOut S (revU S.a t u b)):=by
 have g:=z_g6 w (Un [stoF S])
 refine z_ac (cx:=z_dP w (Un [stoF S])) g z_jr rfl rfl (β:=Va.z) [.c (.v (ptr S.b)),.c (.v (.string t)),.c (.v (.string u)),.c (.v (.bool b))] 0 [] [stoF S,namF] rfl rfl (hm.sat0 rfl (ownIn (Gs:=[stoF S]) (fun f hf=>by
  obtain rfl:=List.mem_singleton.1 hf;rfl))) ?_
 cases hc:S.usr t u with
 | none=>
  refine z_ae (v:= .pointer none) (fun β w' hs=>by
   have h:=get_c w' S t u (hs.get 0 rfl) (hs.getLt 0 rfl) hu (z_nF (hs.get 1 rfl))
   rw [hc] at h
   exact h) ?_
  intro β w' hs
  refine hs.fin [0] (z_aw ?_)
  unfold revU
  rw [z_oS hc]
 | some c=>
  obtain ⟨A,T,B,U,V,at_⟩:=z_o9 hc
  refine z_ae (v:=ptr c.b) (fun β w' hs=>by
   have h:=get_c w' S t u (hs.get 0 rfl) (hs.getLt 0 rfl) hu (z_nF (hs.get 1 rfl))
   rw [hc] at h
   exact h) ?_
  refine ⟨.int .u64 (S.last:Int),fun β w' hs=>bkc (z_gX (hs.get 0 rfl)) rfl,?_⟩
  refine BIf.dec (fun hg=>?_) (fun hg=>?_)
  ·have hg0:(9007199254740992:Int)<=(S.last:Int):=hg
   intro β w' hs
   refine hs.fin [0] (z_aw ?_)
   unfold revU
   rw [at_.is]
   exact if_pos (by unfold greatN;show _<=S.last;omega)
  ·have hg0: ¬(9007199254740992:Int)<=(S.last:Int):=hg
   have hgl:S.last<greatN:=by unfold greatN;omega
   refine ⟨[bkF S.b z_am S.vs,bkF c.b z_ak {c with revoked:=b}.vs,sepF c.parts,restF S.m S.ml (A++B) T.b T.m (U++V),namF],fun β w' hs=>?_,?_⟩
   ·have k1:=hs.recut [0] (z_o5 at_.ten at_.crd)
    exact k1.bkSet 1 (o:=9) (us:=[.bool b]) rfl (Nat.le_refl 10) (fun u hu=>by obtain rfl:=List.mem_singleton.1 hu;rfl)
   refine z_aa [0,1] (fun β w' hs=>z_p1 w' S.b c.b S.last (.map (some S.m)) (.int .u64 S.reads) (Crd.vs {c with revoked:=b}) rfl hgl (by have h:=hs.mem.take (js:=[0,1]) rfl;exact h)) ?_
   rintro v Fs ⟨rfl,rfl⟩
   intro β w' hs
   have k:=hs.recut [0,1,2,3] (z_no (c':= {c with revoked:=b,gen:=S.last+1}) at_ rfl rfl)
   refine k.fin [0] ⟨{S with ts:=A++ {T with us:=U++ {c with revoked:=b,gen:=S.last+1}::V}::B,last:=S.last+1},?_,?_,rfl,rfl⟩
   ·unfold revU
    rw [at_.is]
    show _=Value.int .i64 (if greatN<=S.last then (8,S.a) else (0,_)).1
    rw [if_neg (Nat.not_le.2 hgl)]
    rfl
   ·unfold revU
    rw [at_.is]
    show _=(if greatN<=S.last then (8,S.a) else (0,updU S.a t u fun c=> {c with revoked:=b})).2
    rw [if_neg (Nat.not_le.2 hgl)]
    show ASto.mk _ _ _=ASto.mk _ _ _
    rw [at_.upd {c with revoked:=b,gen:=S.last+1} (fun c=> {c with revoked:=b,gen:=S.last+1}) rfl rfl]
    rfl
theorem z_xy (w:World) (x:ByteArray):Pu Tryz.prog z_ff #[.string x] w (.bool false):=by
 have g:=z_hJ w (Un [])
 refine z_ac (cx:=z_eP w (Un [])) g z_j3 rfl rfl (β:=Va.z) [.c (.v (.string x))] 0 [] [] rfl rfl (Sat.start rfl) ?_
 intro β w' hs
 refine hs.fin [] ⟨?_,rfl⟩
 show Value.bool (!decide (x=x))=_
 simp
theorem z_yp (w:World) (x y:ByteArray):Pu Tryz.prog z_fZ #[.string x,.string y] w (.bool (Op.bytesLess x.toList y.toList)):=by
 have g:=z_i2 w (Un [])
 refine z_ac (cx:=z_e7 w (Un [])) g z_lz rfl rfl (β:=Va.z) [.c (.v (.string x)),.c (.v (.string y))] 0 [] [] rfl rfl (Sat.start rfl) ?_
 refine z_ae (fun β w' hs=>z_xy w' x) ?_
 intro β w' hs
 exact hs.fin [] ⟨rfl,rfl⟩
theorem z_x6 (w:World) (A B:Option Addr) (l:List ByteArray) (c cb:Nat) (x:ByteArray) (hn:l.length<=1000000) (hlc:l.length<=c) (hm:Mem w [srowF A l c,rowF z_ag 1 (.slice B 1 cb) 1 [.string x]]):
  Con Tryz.prog z_aK #[.slice A l.length c,.int .i64 l.length,.slice B 1 cb] w [srowF A l c,rowF z_ag 1 (.slice B 1 cb) 1 [.string x]] fun v Fs=> ∃A' c',v= .slice A' (l++[x]).length c'/\(l++[x]).length<=c'/\Fs=[srowF A' (l++[x]) c']:=by
 have g:=z_ct w (Un [srowF A l c,rowF z_ag 1 (.slice B 1 cb) 1 [.string x]])
 refine z_ac (cx:=z_a7 w (Un [srowF A l c,rowF z_ag 1 (.slice B 1 cb) 1 [.string x]])) g z_dv rfl rfl (β:=Va.z) [.c (.v (.slice A l.length c)),.c (.v (.int .i64 l.length)),.c (.v (.slice B 1 cb))] 0 [] [srowF A l c,rowF z_ag 1 (.slice B 1 cb) 1 [.string x]] rfl rfl (hm.sat0 rfl (fun f hf ho k hk=>⟨f,hf,hk⟩)) ?_
 refine ⟨c,l.length,l.length,0,c - l.length,_,rfl,rfl,rfl,Nat.le_refl c,hlc,Nat.le_refl _,Nat.sub_self _,rfl,rfl,?_⟩
 refine BIf.dec (fun _=>?_) (fun h=>absurd rfl h)
 refine ⟨0,l.length,(l++[x]).length,strs l,[.string x],strs (l++[x]),rfl,fun β w' hs=>z_an (hs.get 1 rfl),fun u hu=>by obtain rfl:=List.mem_singleton.1 hu;rfl,by simp,by simp [strs],by rw [maxLen_eq,List.length_append];simp only [List.length_singleton];omega,by show (l++[x]).length*16<=_;rw [List.length_append];simp only [List.length_singleton];omega,?_⟩
 intro A' c' h1 h2 h3 β w' hs
 exact hs.fin [0] ⟨A',c',rfl,h1,rfl⟩
def tlt (x y:ByteArray):Prop:=x.toList<y.toList
instance (x y:ByteArray):Decidable (tlt x y):=by unfold tlt;exact inferInstance
theorem z_gm (x y:ByteArray):Op.bytesLess x.toList y.toList=decide (tlt x y):=bytesLess_eq _ _
theorem z_kH (b:ByteArray):b.toList=b.data.toList:=ByteArray.toList_eq b
theorem z_yd {x y:ByteArray} (h:x.toList=y.toList):x=y:=by
 rw [z_kH,z_kH] at h
 exact ByteArray.ext (Array.ext' h)
theorem z_bd (x:ByteArray): ¬tlt x x:=by unfold tlt;exact List.lt_irrefl _
theorem z_bv {x y z:ByteArray} (h:tlt x y) (k:tlt y z):tlt x z:=by unfold tlt at *;exact List.lt_trans h k
theorem z_kb {x y:ByteArray} (h:tlt x y): ¬tlt y x:=fun k=>z_bd x (z_bv h k)
theorem z_oA (x y:ByteArray):tlt x y\/x=y\/tlt y x:=by
 unfold tlt
 by_cases h1:x.toList<y.toList
 ·exact .inl h1
 ·by_cases h2:y.toList<x.toList
  ·exact .inr (.inr h2)
  ·refine .inr (.inl (z_yd ?_))
   exact List.le_antisymm (List.not_lt.1 h2) (List.not_lt.1 h1)
def rank (l:List ByteArray) (x:ByteArray):Nat:=(l.filter fun y=>decide (tlt y x)).length
theorem z_qH {l:List ByteArray} {x:ByteArray} {i:Nat} (hi:i<=l.length) (h1: ∀k y,k<i->l[k]?=some y->tlt y x) (h2: ∀k y,i<=k->l[k]?=some y-> ¬tlt y x):rank l x=i:=by
 have e:l=l.take i++l.drop i:=(List.take_append_drop i l).symm
 unfold rank
 rw [e,List.filter_append]
 have f1:(l.take i).filter (fun y=>decide (tlt y x))=l.take i:=by
  refine List.filter_eq_self.2 fun y hy=>?_
  obtain ⟨k,hk⟩:=List.mem_iff_getElem?.1 hy
  have hkl:k<i:=by
   have:=(List.getElem?_eq_some_iff.1 hk).1
   rw [List.length_take] at this
   omega
  rw [List.getElem?_take,if_pos hkl] at hk
  exact decide_eq_true (h1 k y hkl hk)
 have f2:(l.drop i).filter (fun y=>decide (tlt y x))=[]:=by
  refine List.filter_eq_nil_iff.2 fun y hy=>?_
  obtain ⟨k,hk⟩:=List.mem_iff_getElem?.1 hy
  rw [List.getElem?_drop] at hk
  simpa using h2 (i+k) y (Nat.le_add_right _ _) hk
 rw [f1,f2,List.append_nil,List.length_take]
 omega
theorem z_l0 {l:List ByteArray} (hs:l.Pairwise tlt) {i j:Nat} {x y:ByteArray} (hij:i<j) (hi:l[i]?=some x) (hj:l[j]?=some y):tlt x y:=by
 obtain ⟨h1,rfl⟩:=List.getElem?_eq_some_iff.1 hi
 obtain ⟨h2,rfl⟩:=List.getElem?_eq_some_iff.1 hj
 exact List.pairwise_iff_getElem.1 hs i j h1 h2 hij
def hasT (l:List ByteArray) (x:ByteArray):Bool:=l.any fun y=>decide (y=x)
theorem hasT_iff {l:List ByteArray} {x:ByteArray}:hasT l x=true↔x∈l:=by
 unfold hasT
 rw [List.any_eq_true]
 constructor
 ·rintro ⟨y,hy,h⟩
  exact of_decide_eq_true h▸hy
 ·exact fun h=>⟨x,h,decide_eq_true rfl⟩
theorem z_qC {l:List ByteArray} {x:ByteArray} (h: ¬x∈l):hasT l x=false:=by
 cases q:hasT l x with
 | false=>rfl
 | true=>exact absurd (hasT_iff.1 q) h
theorem z_yC (w:World) (x:ByteArray):Pu Tryz.prog z_c4 #[.string x] w (.bool false):=by
 refine z_ac (cx:=z_cL w (Un [])) (z_fH w (Un [])) z_hu rfl rfl (β:=Va.z) [.c (.v (.string x))] 0 [] [] rfl rfl (Sat.start rfl) ?_
 conv=>whnf
 generalize hb:decide (x=x)=b
 cases b with
 | false=>exact absurd rfl (of_decide_eq_false hb)
 | true=>
 intro β w' hs
 exact hs.fin [] ⟨rfl,rfl⟩
theorem bsG_c (w:World) (A:Option Addr) (l:List ByteArray) (c:Nat) (x:ByteArray) (hr:Rd 1 A l.length (strs l) w) (hn:l.length<=1000000) (hs:l.Pairwise tlt):
  Pu Tryz.prog z_aQ #[.slice A l.length c,.string x] w (.tuple #[.int .i64 (rank l x:Int),.bool (hasT l x)]):=by
 have g:=z_bB w (Un [])
 refine z_ac (cx:=z_aP w (Un [])) g z_b4 rfl rfl (β:=Va.z) [.c (.v (.slice A l.length c)),.c (.v (.string x))] 0 [] [oldF w] rfl rfl (z_ay rfl) ?_
 refine z_ai 0 (fun i:Nat×Nat=>[(0,.c (.v (.slice A l.length c))),(1,.c (.v (.string x))),(6,.c (.v (.int .i64 l.length))),(7,.c (.v (.int .i64 (i.1:Int)))),(8,.c (.v (.int .i64 (i.2:Int))))]) (fun _=>[]) (fun _=>[oldF w])
  (fun i=>i.1<=i.2/\i.2<=l.length/\(∀k y,k<i.1->l[k]?=some y->tlt y x)/\(∀k y,i.2<=k->l[k]?=some y-> ¬tlt y x)) (fun i=>i.2 - i.1) (0,l.length) ⟨Nat.zero_le _,Nat.le_refl _,fun k y h=>absurd h (Nat.not_lt_zero _),fun k y h h2=>by rw [List.getElem?_eq_none h] at h2;cases h2⟩ (Ent.same ⟨rfl,rfl,rfl,rfl,rfl,trivial⟩ rfl) g ?_
 rintro ⟨i,j⟩ ⟨hij,hjn,hlo,hhi⟩
 simp only at hij hjn hlo hhi
 refine BIf.dec (fun hlt=>?_) (fun hge=>?_)
 ·have hlt0:(i:Int)<(j:Int):=hlt
  have hh:(i+j)/2<l.length:=by omega
  obtain ⟨y,hy,hym⟩:=at_lt hh
  refine ⟨((i+j:Nat):Int),by rw [wrap_i64 (by omega) (by omega)];omega,((i+j:Nat):Int),by rw [z_aT];omega,by decide,(((i+j)/2:Nat):Int),?_,(((i+j)/2:Nat):Int),by rw [wrap_i64 (by omega) (by omega)],?_⟩
  ·show Int.fdiv ((i+j:Nat):Int) (2^(min (Int.toNat 1) 64))=_
   rw [Int.fdiv_eq_ediv_of_nonneg _ (by decide)]
   have:(2:Int)^(min (Int.toNat 1) 64)=2:=by decide
   rw [this]
   omega
  obtain ⟨ad,hA,_⟩:=hr.2 (by omega)
  refine ⟨ad,(i+j)/2,hA,rfl,hh,.string y,fun β w' hs=>?_,?_⟩
  ·have h:=Rd.old hr (hs.get 0 rfl)
   rw [hA] at h
   exact Rd.cell1 h (by simp [strs,hy])
  obtain ⟨b,hb⟩: ∃b,decide (tlt y x)=b:=⟨_,rfl⟩
  refine z_ae (v:= .bool b) (fun β w' hs=>by
   have h:=z_yp w' y x
   rw [z_gm,hb] at h
   exact h) ?_
  cases b with
  | true=>
   have hyx:=of_decide_eq_true hb
   refine ⟨(((i+j)/2+1:Nat):Int),by rw [wrap_i64 (by omega) (by omega)];rfl,?_⟩
   refine ⟨((i+j)/2+1,j),⟨by show (i+j)/2+1<=j;omega,hjn,fun k z hk hz=>?_,hhi⟩,by show j - ((i+j)/2+1)<j - i;omega,Ent.same ⟨rfl,rfl,rfl,rfl,rfl,trivial⟩ rfl⟩
   have hk':k<(i+j)/2+1:=hk
   rcases Nat.lt_or_ge k ((i+j)/2) with hk2 | hk2
   ·exact z_bv (z_l0 hs hk2 hz hy) hyx
   ·obtain rfl:k=(i+j)/2:=by omega
    rw [hy] at hz
    obtain rfl:=Option.some.inj hz
    exact hyx
  | false=>
   have hyx:=of_decide_eq_false hb
   refine ⟨(i,(i+j)/2),⟨by show i<=(i+j)/2;omega,by show (i+j)/2<=l.length;omega,hlo,fun k z hk hz q=>?_⟩,by show (i+j)/2 - i<j - i;omega,Ent.same ⟨rfl,rfl,rfl,rfl,rfl,trivial⟩ rfl⟩
   have hk':(i+j)/2<=k:=hk
   rcases Nat.lt_or_ge ((i+j)/2) k with hk2 | hk2
   ·exact hyx (z_bv (z_l0 hs hk2 hy hz) q)
   ·obtain rfl:k=(i+j)/2:=by omega
    rw [hy] at hz
    obtain rfl:=Option.some.inj hz
    exact hyx q
 ·have hge0: ¬(i:Int)<(j:Int):=hge
  obtain rfl:i=j:=by omega
  have hrk:rank l x=i:=z_qH hjn hlo hhi
  rw [hrk]
  refine BIf.dec (fun hil=>?_) (fun hil=>?_)
  ·have hil0:(i:Int)<(l.length:Int):=hil
   obtain ⟨y,hy,hym⟩:=at_lt (show i<l.length by omega)
   obtain ⟨ad,hA,_⟩:=hr.2 (by omega)
   refine ⟨ad,i,hA,rfl,by omega,.string y,fun β w' hs=>?_,?_⟩
   ·have h:=Rd.old hr (hs.get 0 rfl)
    rw [hA] at h
    exact Rd.cell1 h (by simp [strs,hy])
   refine BIf.dec (fun hyx=>?_) (fun hyx=>?_)
   ·have hyx0:y=x:=hyx
    rw [hasT_iff.2 (hyx0▸hym)]
    intro β w' hs
    exact hs.fin [] ⟨rfl,rfl⟩
   ·have hyx0: ¬y=x:=hyx
    have hno: ¬x∈l:=fun h=>by
     obtain ⟨k,hk⟩:=List.mem_iff_getElem?.1 h
     rcases Nat.lt_trichotomy k i with h1 | h1 | h1
     ·exact z_bd x (hlo k x h1 hk)
     ·subst h1
      rw [hy] at hk
      exact hyx0 (Option.some.inj hk)
     ·exact hhi i y (Nat.le_refl _) hy (z_l0 hs h1 hy hk)
    rw [z_qC hno]
    refine ⟨ad,i,hA,rfl,by omega,.string y,fun β w' hs=>?_,?_⟩
    ·have h:=Rd.old hr (hs.get 0 rfl)
     rw [hA] at h
     exact Rd.cell1 h (by simp [strs,hy])
    refine z_ae (fun β w' hs=>z_yC w' y) ?_
    intro β w' hs
    exact hs.fin [] ⟨rfl,rfl⟩
  ·have hil0: ¬(i:Int)<(l.length:Int):=hil
   have hno: ¬x∈l:=fun h=>by
    obtain ⟨k,hk⟩:=List.mem_iff_getElem?.1 h
    have:=(List.getElem?_eq_some_iff.1 hk).1
    exact z_bd x (hlo k x (by omega) hk)
   rw [z_qC hno]
   intro β w' hs
   exact hs.fin [] ⟨rfl,rfl⟩
def insRen:Go.Shelf.Ren:=⟨fun | 22=>94 | 17=>220 | 29=>138 | 30=>139 | 36=>183 | n=>n,fun | 24=>32 | 3=>3 | 4=>4 | 9=>9 | n=>n,fun n=>n⟩
theorem insLays:Go.Proofs.Lays2.n22 Tryz.prog insRen:= {
 mixed:=by kernel_rfl
 f17:=Tryz.func220.trans (congrArg some (by kernel_rfl))
 f22:=Tryz.func94.trans (congrArg some (by kernel_rfl))
 f29:=Tryz.func138.trans (congrArg some (by kernel_rfl))
 f30:=Tryz.func139.trans (congrArg some (by kernel_rfl))
 f36:=Tryz.func183.trans (congrArg some (by kernel_rfl))
 t0:=Tryz.underlying0
 a0:=Tryz.isAgg0
 z0:=Tryz.sizeOf0
 v0:=Tryz.zeroValue0
 t3:=Tryz.underlying3
 a3:=Tryz.isAgg3
 z3:=Tryz.sizeOf3
 v3:=Tryz.zeroValue3
 t4:=Tryz.underlying4
 a4:=Tryz.isAgg4
 z4:=Tryz.sizeOf4
 v4:=Tryz.zeroValue4
 t9:=Tryz.underlying9
 a9:=Tryz.isAgg9
 z9:=Tryz.sizeOf9
 v9:=Tryz.zeroValue9
 t24:=Tryz.underlying32
 a24:=Tryz.isAgg32
 z24:=Tryz.sizeOf32
 v24:=Tryz.zeroValue32
 i9:=by kernel_rfl
}
theorem z_ef {b e:Nat}: ∀(vs:List Value) (o:Nat) (w:World) (cur:Array Value) (fz:Nat×Nat),w.heap[b]?=some (.cells cur e fz)->(w.setCells b o vs).heap[b]?=some (.cells (putAll cur.toList o vs).toArray e fz)
 | [],o,w,cur,fz,h=>by simpa [World.setCells,putAll] using h
 | v::r,o,w,cur,fz,h=>by
  have h1:(w.setCell ⟨b,o,none⟩ v).heap[b]?=some (.cells (cur.setIfInBounds o v) e fz):=by
   unfold World.setCell
   show (w.heap.modify b _)[b]?=_
   rw [Array.getElem?_modify,if_pos rfl,h]
   rfl
  have h2:=z_ef r (o+1) _ _ fz h1
  rw [World.setCells,h2,putAll,z_aF]
  simp
theorem z_hQ {b k:Nat} (hk:k≠b): ∀(vs:List Value) (o:Nat) (w:World),(w.setCells b o vs).heap[k]?=w.heap[k]?/\(w.setCells b o vs).heap.size=w.heap.size/\(w.setCells b o vs).os=w.os/\(w.setCells b o vs).tape=w.tape/\(w.setCells b o vs).output=w.output
 | [],_,_=>⟨rfl,rfl,rfl,rfl,rfl⟩
 | v::r,o,w=>by
  obtain ⟨h1,h2,h3,h4,h5⟩:=z_hQ hk r (o+1) (w.setCell ⟨b,o,none⟩ v)
  rw [World.setCells]
  refine ⟨h1.trans ?_,h2.trans ?_,h3,h4,h5⟩
  ·unfold World.setCell
   show (w.heap.modify b _)[k]?=_
   rw [Array.getElem?_modify,if_neg (fun q=>hk q.symm)]
  ·unfold World.setCell
   show (w.heap.modify b _).size=_
   exact Array.size_modify
theorem z_e1 (w:World) (b o:Nat) (vs:List Value):Chg (· =b) w (w.setCells b o vs):=by
 have h0:=z_hQ (Nat.succ_ne_self b) vs o w
 exact ⟨h0.2.2.1,h0.2.2.2.1,h0.2.2.2.2,Nat.le_of_eq h0.2.1.symm,fun k _ hk=>(z_hQ (fun q=>hk q) vs o w).1⟩
theorem z_o1 (w:World):Chg None_ w w.drew:=⟨rfl,rfl,rfl,Nat.le_refl _,fun _ _ _=>rfl⟩
theorem z_tW {w:World} {f:Fact} (h:f.p w) (hD: ∀k,f.D k->k<w.heap.size):Mem w [f]:=
 ⟨fun g hg=>by obtain rfl:=List.mem_singleton.1 hg;exact h,fun g hg=>by obtain rfl:=List.mem_singleton.1 hg;exact hD,List.pairwise_singleton _ _⟩
def insT (l:List ByteArray) (i:Nat) (x:ByteArray):List ByteArray:=l.take i++x::l.drop i
theorem z_rj {l:List ByteArray} {i:Nat} {x:ByteArray} (hi:i<=l.length):(insT l i x).length=l.length+1:=by
 unfold insT
 rw [List.length_append,List.length_cons,List.length_take,List.length_drop]
 omega
theorem z_im (l:List ByteArray) (i:Nat) (x:ByteArray):strs (insT l i x)=(strs l).take i++Value.string x::(strs l).drop i:=by
 simp [strs,insT,List.map_take,List.map_drop]
theorem z_qy {cs cur:List Value} {n i:Nat} {v:Value} (hn:cs.length=n) (hi:i<n) (hcur:n+1<=cur.length) (ht:cur.take n=cs):(putAll (putAll cur (i+1) (cs.drop i)) i [v]).take (n+1)=cs.take i++v::cs.drop i:=by
 have hd:(cs.drop i).length=n - i:=by rw [List.length_drop,hn]
 have h1:putAll cur (i+1) (cs.drop i)=cur.take (i+1)++cs.drop i++cur.drop (n+1):=by
  rw [z_cR _ _ _ (by rw [hd];omega),hd]
  congr 2
  omega
 have hl:(putAll cur (i+1) (cs.drop i)).length=cur.length:=z_aI _ _ _
 rw [z_cR [v] _ _ (by rw [hl];show i+1<=_;omega)]
 have e1:(putAll cur (i+1) (cs.drop i)).take i=cs.take i:=by
  rw [h1,List.append_assoc,List.take_append_of_le_length (by rw [List.length_take];omega),List.take_take,<-ht,List.take_take]
  congr 1
  omega
 have e2:(putAll cur (i+1) (cs.drop i)).drop (i+[v].length)=cs.drop i++cur.drop (n+1):=by
  rw [h1,List.append_assoc]
  show List.drop (i+1) _=_
  rw [List.drop_left' (by rw [List.length_take];omega)]
 rw [e1,e2,List.append_assoc]
 have hlen:(cs.take i++(v::cs.drop i)).length=n+1:=by
  rw [List.length_append,List.length_cons,List.length_take,hd,hn]
  omega
 have e3:cs.take i++([v]++(cs.drop i++cur.drop (n+1)))=(cs.take i++(v::cs.drop i))++cur.drop (n+1):=by simp
 rw [e3,List.take_append_of_le_length (by omega),List.take_of_length_le (by omega)]
theorem z_su {cs C:List Value} {n i:Nat} {v:Value} (hn:cs.length=n) (hi:i<n) (hC:n+1<=C.length) (ht:C.take i=cs.take i):(putAll (putAll C i [v]) (i+1) (cs.drop i)).take (n+1)=cs.take i++v::cs.drop i:=by
 have hd:(cs.drop i).length=n - i:=by rw [List.length_drop,hn]
 have hl:(putAll C i [v]).length=C.length:=z_aI _ _ _
 have h1:putAll C i [v]=cs.take i++[v]++C.drop (i+1):=by
  rw [z_cR [v] _ _ (by show i+1<=_;omega),ht]
  rfl
 have e1:(putAll C i [v]).take (i+1)=cs.take i++[v]:=by
  have hlen:(cs.take i++[v]).length=i+1:=by rw [List.length_append,List.length_take,hn];show min i n+1=i+1;omega
  rw [h1,List.take_append_of_le_length (by omega),List.take_of_length_le (by omega)]
 rw [z_cR _ _ _ (by rw [hl,hd];omega),e1]
 have hlen:(cs.take i++[v]++cs.drop i).length=n+1:=by
  rw [List.length_append,List.length_append,List.length_take,hd,hn]
  show min i n+1+(n - i)=n+1
  omega
 rw [List.take_append_of_le_length (by omega),List.take_of_length_le (by omega),List.append_assoc]
 rfl
theorem z_ym (w:World) (A B:Option Addr) (l:List ByteArray) (c cb i:Nat) (x:ByteArray) (hi:i<=l.length) (hn:l.length<=1000000) (hlc:l.length<=c) (hm:Mem w [srowF A l c,rowF z_ag 1 (.slice B 1 cb) 1 [.string x]]):
  Con Tryz.prog z_aK #[.slice A l.length c,.int .i64 (i:Int),.slice B 1 cb] w [srowF A l c,rowF z_ag 1 (.slice B 1 cb) 1 [.string x]] fun v Fs=> ∃A' c',v= .slice A' (insT l i x).length c'/\(insT l i x).length<=c'/\Fs=[srowF A' (insT l i x) c']:=by
 rcases Nat.lt_or_ge i l.length with hlt | hge
 rotate_left
 ·obtain rfl:i=l.length:=by omega
  have e:insT l l.length x=l++[x]:=by unfold insT;rw [List.take_length,List.drop_length]
  rw [e]
  exact z_x6 w A B l c cb x hn hlc hm
 have ho1:w.ownsRow 0 z_ag 1 (.slice A l.length c) l.length (strs l):=hm.fact (srowF A l c) (by simp)
 have ho2:w.ownsRow 0 z_ag 1 (.slice B 1 cb) 1 [.string x]:=hm.fact (rowF z_ag 1 (.slice B 1 cb) 1 [.string x]) (by simp)
 have hsep:=hm.sepf
 rcases ho1.2 with ⟨q,hz⟩ | ⟨b,cap,cur,hv,hb0,hg,hnc,hcm,hcs,htake⟩
 ·omega
 rcases ho2.2 with ⟨q,hz⟩ | ⟨vb,vcap,vcur,hv2,vb0,vg,vnc,vcm,vcs,vtake⟩
 ·omega
 injection hv with e1 e2 e3
 injection hv2 with f1 f2 f3
 subst e1 f1
 subst e3 f3
 have hne:vb≠b:=by
  intro q
  subst q
  exact (List.pairwise_cons.1 hsep).1 (rowF z_ag 1 (.slice (some ⟨vb,0,none⟩) 1 cb) 1 [.string x]) (by simp) (.inl rfl) vb rfl rfl
 have hml:=maxLen_eq
 have hr1:=(z_an ho1).2 (by omega)
 have hr2:=(z_an ho2).2 (by decide)
 have hcl1: ∀j v,(strs l)[j]?=some v->w.cell? ⟨b,0+j,none⟩=some v:=fun j v hj=>by
  obtain ⟨ad,q,h⟩:=hr1
  obtain rfl:=Option.some.inj q
  have:=h j v hj
  rwa [z_a0] at this
 have hcl2: ∀j v,([.string x]:List Value)[j]?=some v->w.cell? ⟨vb,0+j,none⟩=some v:=fun j v hj=>by
  obtain ⟨ad,q,h⟩:=hr2
  obtain rfl:=Option.some.inj q
  have:=h j v hj
  rwa [z_a0] at this
 have h1v: ∀v∈([.string x]:List Value),v.oneCell'=true:=fun v hv=>by obtain rfl:=List.mem_singleton.1 hv;rfl
 have hlt':=z_rj (x:=x) (Nat.le_of_lt hlt)
 have hsl:=z_cX l
 by_cases hroom:l.length+1<=c
 ·refine Calls.mono (Any2.slices_Insert_string_shift insLays b 0 l.length c i vb 0 1 cb (strs l) [.string x] w hlt (by decide) hroom (by omega) hne (z_cX l) rfl hcl1 (fun j hj=>?_) (fun j _=>Lib.frozen_of_heap hg (0+j)) hcl2 (z_cU l) h1v z_ag z_ag vcur.size cur.size ?_ ?_ ?_ (Lib.frozen_of_heap vg 0) (Lib.frozen_of_heap vg vcur.size)) ?_
  ·rw [cell_of_row w b _ _ _ _ hg]
   rw [Array.getElem?_eq_getElem (by omega)]
   rfl
  ·unfold World.shape?;rw [vg]
  ·unfold World.shape?;rw [hg]
  ·omega
  rintro e w' ⟨rfl,rfl⟩
  refine ⟨_,rfl,[srowF (some ⟨b,0,none⟩) (insT l i x) c],⟨some ⟨b,0,none⟩,c,by rw [hlt'],by omega,rfl⟩,?_,?_,⟨rfl,trivial⟩,?_⟩
  ·have k1:=(z_o1 w).trans (z_e1 w.drew b (0+(i+1)) ((strs l).drop i)) (U:=(· =b)) (fun _ _ h=>h.elim) (fun _ _ h=>h)
   have k2:=k1.trans (z_e1 _ b (0+i) [.string x]) (U:=Un [srowF (some ⟨b,0,none⟩) l c,rowF z_ag 1 (.slice (some ⟨vb,0,none⟩) 1 cb) 1 [.string x]]) (fun k _ h=>⟨srowF (some ⟨b,0,none⟩) l c,by simp,by subst h;rfl⟩) (fun k _ h=>⟨srowF (some ⟨b,0,none⟩) l c,by simp,by subst h;rfl⟩)
   exact k2
  ·have hb1:=z_ef ((strs l).drop i) (0+(i+1)) w.drew cur (0,0) hg
   have hb2:=z_ef [.string x] (0+i) _ _ (0,0) hb1
   rw [Nat.zero_add,Nat.zero_add] at hb2 ⊢
   refine z_tW ⟨by rw [z_cX,Nat.mul_one],.inr ⟨b,c,_,rfl,Nat.zero_le _,hb2,by omega,hcm,?_,?_⟩⟩ (fun k hk=>?_)
   ·simp only [List.size_toArray,z_aI,Array.length_toList]
    exact hcs
   ·show ((putAll _ i [Value.string x]).toArray.toList).take ((insT l i x).length*1)=strs (insT l i x)
    rw [z_im,hlt',Nat.mul_one]
    exact z_qy (z_cX l) hlt (by have:cur.toList.length=cur.size:=Array.length_toList;omega) (by rw [<-htake,Nat.mul_one])
   ·obtain rfl:b=k:=by simpa [rowF,Value.ownBlock] using hk
    exact (Array.getElem?_eq_some_iff.1 hb2).1
  ·intro f hf k hk
   obtain rfl:=List.mem_singleton.1 hf
   exact .inl ⟨srowF (some ⟨b,0,none⟩) l c,by simp,hk⟩
 ·refine Calls.mono (Any2.slices_Insert_string_grow insLays b 0 l.length c i vb 0 1 cb (strs l) [.string x] w hlt (by decide) hlc (by omega) (by omega) (z_cX l) rfl hcl1 hcl2 (z_cU l) h1v) ?_
  rintro e w' ⟨rfl,rfl⟩
  have hgc:=grownCap_ge w (l.length+1) c (insRen.t 9)
  have hgm:=grownCap_le_maxLen w (l.length+1) c (insRen.t 9) (by omega)
  generalize grownCap w (l.length+1) c (insRen.t 9)=cap at hgc hgm ⊢
  have hz: ∀m,(Builtin.zeroCells (Value.string ⟨#[]⟩).cells m).size=m:=fun m=>by
   simp [Builtin.zeroCells,Value.cells]
  obtain ⟨C,hC⟩: ∃C:Array Value,((strs l).take i).toArray++Builtin.zeroCells (Value.string ⟨#[]⟩).cells (l.length+1 - i)++Builtin.zeroCells (Value.string ⟨#[]⟩).cells (cap - (l.length+1))=C:=⟨_,rfl⟩
  have hCs:C.size=cap:=by
   rw [<-hC,Array.size_append,Array.size_append,hz,hz,List.size_toArray,List.length_take,z_cX]
   omega
  have hCt:C.toList.take i=(strs l).take i:=by
   rw [<-hC,Array.toList_append,Array.toList_append,List.append_assoc,List.take_append_of_le_length (by rw [List.length_take,z_cX];omega),List.take_take]
   congr 1
   omega
  have hb1:=z_ef [.string x] i (w.alloc (.cells C (insRen.t 9))).drew C (0,0) (heap_alloc_new w _)
  have hb2:=z_ef ((strs l).drop i) (i+1) ((w.alloc (.cells C (insRen.t 9))).drew.setCells w.heap.size i [.string x]).drew _ (0,0) hb1
  have hch:Chg None_ w (((w.alloc (.cells C (insRen.t 9))).drew.setCells w.heap.size i [.string x]).drew.setCells w.heap.size (i+1) ((strs l).drop i)):=by
   have k1:=(Chg.alloc w (.cells C (insRen.t 9))).trans (z_o1 _) (U:=None_) (fun _ _ h=>h) (fun _ _ h=>h)
   have k2:=k1.trans (z_e1 _ w.heap.size i [.string x]) (U:=None_) (fun _ _ h=>h) (fun k hk h=>by subst h;exact absurd hk (Nat.lt_irrefl _))
   have k3:=k2.trans (z_o1 _) (U:=None_) (fun _ _ h=>h) (fun _ _ h=>h)
   exact k3.trans (z_e1 _ w.heap.size (i+1) ((strs l).drop i)) (U:=None_) (fun _ _ h=>h) (fun k hk h=>by subst h;exact absurd hk (Nat.lt_irrefl _))
  rw [hC]
  refine ⟨_,rfl,[srowF (some ⟨w.heap.size,0,none⟩) (insT l i x) cap],⟨some ⟨w.heap.size,0,none⟩,cap,by rw [hlt'],by omega,rfl⟩,?_,?_,⟨rfl,trivial⟩,?_⟩
  ·exact hch.mono (fun _ _ h=>h.elim)
  ·refine z_tW ⟨by rw [z_cX,Nat.mul_one],.inr ⟨w.heap.size,cap,_,rfl,Nat.zero_le _,hb2,by omega,hgm,?_,?_⟩⟩ (fun k hk=>?_)
   ·simp only [List.size_toArray,z_aI,Array.length_toList]
    rw [hCs,Nat.mul_one]
   ·show ((putAll (putAll C.toList i [Value.string x]).toArray.toList (i+1) _).toArray.toList).take ((insT l i x).length*1)=strs (insT l i x)
    rw [z_im,hlt',Nat.mul_one]
    exact z_su (z_cX l) hlt (by have:C.toList.length=C.size:=Array.length_toList;omega) hCt
   ·obtain rfl:w.heap.size=k:=by simpa [rowF,Value.ownBlock] using hk
    exact (Array.getElem?_eq_some_iff.1 hb2).1
  ·intro f hf k hk
   obtain rfl:=List.mem_singleton.1 hf
   obtain rfl:w.heap.size=k:=by simpa [rowF,Value.ownBlock] using hk
   exact .inr (Nat.le_refl _)
theorem z_xB (l:List ByteArray) (x:ByteArray):rank l x<=l.length:=List.length_filter_le _ _
def raiseA (X:ASto) (n:Nat):Int×ASto:=if greatN<n then (4,X) else (0,{X with last:=max X.last n})
theorem z_tG (w:World) (S:Sto) (n:Nat) (hm:Mem w [stoF S]):Con Tryz.prog z_fi #[ptr S.b,.int .u64 (n:Int)] w [stoF S] (stoOut S (raiseA S.a n)):=by
 have g:=z_hE w (Un [stoF S])
 obtain ⟨x,hx⟩: ∃x:Int,(n:Int)=x:=⟨_,rfl⟩
 rw [hx]
 refine z_ac (cx:=z_eq w (Un [stoF S])) g z_kz rfl rfl (β:=Va.z) [.c (.v (ptr S.b)),.c (.v (.int .u64 x))] 0 [] [stoF S] rfl rfl (hm.sat0 rfl (fun f hf _ k hk=>⟨f,hf,hk⟩)) ?_
 refine BIf.dec (fun hg=>?_) (fun hg=>?_)
 ·have hg0:(9007199254740992:Int)<x:=hg
  intro β w' hs
  exact hs.fin [0] (z_aw (by unfold raiseA;rw [if_pos (by unfold greatN;omega)]))
 ·have hg0: ¬(9007199254740992:Int)<x:=hg
  obtain ⟨y,hy⟩: ∃y:Int,((max S.last n:Nat):Int)=y:=⟨_,rfl⟩
  refine ⟨.int .u64 (S.last:Int),fun β w' hs=>bkc (z_gX (hs.get 0 rfl)) rfl,?_⟩
  refine ⟨y,by show max (S.last:Int) x=y;rw [<-hy,<-hx];omega,?_⟩
  refine ⟨[stoF {S with last:=max S.last n}],fun β w' hs=>?_,?_⟩
  ·have k1:=hs.unsep 0 rfl
   obtain ⟨w2,e1,e2⟩:=k1.bkSet 0 (o:=1) (us:=[.int .u64 y]) rfl (by show 2<=3;decide) (fun u hu=>by obtain rfl:=List.mem_singleton.1 hu;rfl)
   refine ⟨w2,e1,?_⟩
   have k2:=e2.sep [0,1,2] rfl ⟨rfl,rfl,rfl,trivial⟩
   rw [<-hy] at k2
   exact k2
  intro β w' hs
  exact hs.fin [0] ⟨{S with last:=max S.last n},by unfold raiseA;rw [if_neg (by unfold greatN;omega)];rfl,by unfold raiseA;rw [if_neg (by unfold greatN;omega)];rfl,rfl,rfl⟩
def chgU (X:ASto) (t u:ByteArray) (a:ASec):Int×ASto:=match aone X t u with
 | none=>(6,X)
 | some _=>if rightA a=false then (4,X) else if greatN<=X.last then (8,X) else (0,updU X t u fun c=> {c with sec:=a})
def grantG (X:ASto) (t u role:ByteArray):Int×ASto:=match aone X t u with
 | none=>(6,X)
 | some c=>if plainF role.data.toList=false then (5,X) else if hasT c.roles role=true then (7,X) else if 8<=c.roles.length then (8,X) else if greatN<=X.last then (8,X) else (0,updU X t u fun c=> {c with roles:=insT c.roles (rank c.roles role) role})
def RolesOk (X:ASto):Prop:= ∀t u a,aone X t u=some a->a.roles.length<=1000/\a.roles.Pairwise tlt
theorem z_uK (w:World) (S:Sto) (t u role:ByteArray) (hu:u.size<=100000) (hro:role.size<=100000) (hz:RolesOk S.a) (hm:Mem w [stoF S,namF]):
  Con Tryz.prog z_eV #[ptr S.b,.string t,.string u,.string role] w [stoF S] (stoOut S (grantG S.a t u role)):=by
 have g:=z_hS w (Un [stoF S])
 refine z_ac (cx:=z_b0 w (Un [stoF S])) g z_j1 rfl rfl (β:=Va.z) [.c (.v (ptr S.b)),.c (.v (.string t)),.c (.v (.string u)),.c (.v (.string role))] 0 [] [stoF S,namF] rfl rfl (hm.sat0 rfl (ownIn (Gs:=[stoF S]) (fun f hf=>by
  obtain rfl:=List.mem_singleton.1 hf;rfl))) ?_
 cases hc:S.usr t u with
 | none=>
  refine z_ae (v:= .pointer none) (fun β w' hs=>by
   have h:=get_c w' S t u (hs.get 0 rfl) (hs.getLt 0 rfl) hu (z_nF (hs.get 1 rfl))
   rw [hc] at h
   exact h) ?_
  intro β w' hs
  refine hs.fin [0] (z_aw ?_)
  unfold grantG
  rw [z_oS hc]
 | some c=>
  obtain ⟨A,T,B,U,V,at_⟩:=z_o9 hc
  obtain ⟨hrl,hall⟩:=hz _ _ _ at_.is
  have hrl':c.roles.length<=1000:=hrl
  have hall':c.roles.Pairwise tlt:=hall
  refine z_ae (v:=ptr c.b) (fun β w' hs=>by
   have h:=get_c w' S t u (hs.get 0 rfl) (hs.getLt 0 rfl) hu (z_nF (hs.get 1 rfl))
   rw [hc] at h
   exact h) ?_
  have hgr:grantG S.a t u role=if plainF role.data.toList=false then (5,S.a) else if hasT c.roles role=true then (7,S.a) else if 8<=c.roles.length then (8,S.a) else if greatN<=S.last then (8,S.a) else (0,updU S.a t u fun c=> {c with roles:=insT c.roles (rank c.roles role) role}):=by
   unfold grantG
   rw [at_.is]
   rfl
  refine z_ae (fun β w' hs=>z_oI w' role hro) ?_
  generalize hp:plainF role.data.toList=bp at hgr
  cases bp with
  | false=>
   rw [if_pos rfl] at hgr
   intro β w' hs
   exact hs.fin [0] (z_aw hgr)
  | true=>
  rw [if_neg (by decide)] at hgr
  have hcell: ∀ {β:Va} {n:Nat} {H:List Bk} {F:List Fact} {w':World},Sat (z_b0 w (Un [stoF S])) β n H F w'-> ∀j,nth F j=some (stoF S)->w'.cell? ⟨c.b,8,none⟩=some (.slice c.rA c.roles.length c.rc):=fun hs j hj=>bkc (z_wP (at_.crdP (hs.get j hj))) rfl
  refine ⟨.slice c.rA c.roles.length c.rc,fun β w' hs=>hcell hs 0 rfl,?_⟩
  refine z_ae (fun β w' hs=>bsG_c w' c.rA c.roles c.rc role (z_o4 (at_.crdP (hs.get 0 rfl))) (by omega) hall') ?_
  generalize hh:hasT c.roles role=bh at hgr
  cases bh with
  | true=>
   rw [if_pos rfl] at hgr
   intro β w' hs
   exact hs.fin [0] (z_aw hgr)
  | false=>
  rw [if_neg (by decide)] at hgr
  refine ⟨.slice c.rA c.roles.length c.rc,fun β w' hs=>hcell hs 0 rfl,?_⟩
  refine BIf.dec (fun hf=>?_) (fun hf=>?_)
  ·have hf0:(8:Int)<=(c.roles.length:Int):=hf
   rw [if_pos (by omega)] at hgr
   intro β w' hs
   exact hs.fin [0] (z_aw hgr)
  have hf0: ¬(8:Int)<=(c.roles.length:Int):=hf
  rw [if_neg (by omega)] at hgr
  refine ⟨.int .u64 (S.last:Int),fun β w' hs=>bkc (z_gX (hs.get 0 rfl)) rfl,?_⟩
  refine BIf.dec (fun hg=>?_) (fun hg=>?_)
  ·have hg0:(9007199254740992:Int)<=(S.last:Int):=hg
   rw [if_pos (by unfold greatN;omega)] at hgr
   intro β w' hs
   exact hs.fin [0] (z_aw hgr)
  have hg0: ¬(9007199254740992:Int)<=(S.last:Int):=hg
  have hgl:S.last<greatN:=by unfold greatN;omega
  rw [if_neg (Nat.not_le.2 hgl)] at hgr
  refine ⟨.slice c.rA c.roles.length c.rc,fun β w' hs=>hcell hs 0 rfl,?_⟩
  refine z_aa [] (fun β w' hs=>z_re w' c.rA c.roles c.rc (z_o4 (at_.crdP (hs.get 0 rfl))) (by omega)) ?_
  rintro v Fs ⟨A1,c1,rfl,hc1,_,rfl⟩
  intro b1
  refine z_aa [1,0] (fun β w' hs=>z_ym w' A1 (some ⟨b1,0,none⟩) c.roles c1 1 (rank c.roles role) role (z_xB _ _) (by omega) hc1 (hs.mem.take (js:=[1,0]) rfl)) ?_
  rintro v Fs ⟨A2,c2,rfl,hc2,rfl⟩
  obtain ⟨cr,hcr⟩: ∃cr:Crd,cr= {c with rA:=A2,rc:=c2,roles:=insT c.roles (rank c.roles role) role}:=⟨_,rfl⟩
  have hvs:putAll c.vs 8 [.slice A2 (insT c.roles (rank c.roles role) role).length c2]=cr.vs:=by rw [hcr];rfl
  refine ⟨[bkF S.b z_am S.vs,bkF c.b z_ak cr.vs,sepF c.parts,restF S.m S.ml (A++B) T.b T.m (U++V),srowF A2 (insT c.roles (rank c.roles role) role) c2,namF],fun β w' hs=>?_,?_⟩
  ·have k1:=hs.recut [1] (z_o5 at_.ten at_.crd)
   have k2:=k1.bkSet 1 (o:=8) (us:=[.slice A2 (insT c.roles (rank c.roles role) role).length c2]) rfl (show 8+1<=10 by decide) (fun u hu=>by obtain rfl:=List.mem_singleton.1 hu;rfl)
   rw [hvs] at k2
   exact k2
  refine z_aa [0,1] (fun β w' hs=>z_p1 w' S.b c.b S.last (.map (some S.m)) (.int .u64 S.reads) cr.vs rfl hgl (by have h:=hs.mem.take (js:=[0,1]) rfl;exact h)) ?_
  rintro v Fs ⟨rfl,rfl⟩
  intro β w' hs
  have k1:=hs.unsep 2 rfl
  have k2:=k1.strsRow 8 rfl
  have k3:=k2.sep [8,1,2,3,4] rfl ⟨rfl,rfl,rfl,rfl,rfl,trivial⟩
  have k4:=k3.perm [2,3,0,4,5]
  have k:=k4.recut [0,1,2,3] (Fs:=[stoF {S with ts:=A++ {T with us:=U++ {cr with gen:=S.last+1}::V}::B,last:=S.last+1}]) (fun h=>z_no (c':= {cr with gen:=S.last+1}) at_ (by rw [hcr]) (by rw [hcr]) (by rw [hcr] at h ⊢;exact h)) rfl rfl ⟨rfl,rfl,rfl,rfl,trivial⟩ ⟨rfl,trivial⟩
  refine k.fin [0] ⟨{S with ts:=A++ {T with us:=U++ {cr with gen:=S.last+1}::V}::B,last:=S.last+1},?_,?_,rfl,rfl⟩
  ·rw [hgr];rfl
  ·rw [hgr]
   show ASto.mk _ _ _=ASto.mk _ _ _
   rw [at_.upd {cr with gen:=S.last+1} (fun c=> {c with roles:=insT c.roles (rank c.roles role) role,gen:=S.last+1}) (by rw [hcr]) (by rw [hcr];rfl)]
   rfl
def allPl (l:List ByteArray):Bool:=l.all fun r=>plainF r.data.toList
theorem z_v6 (w:World) (r:ByteArray) (hr:r.size<=100000):Pu Tryz.prog z_aA #[.string r] w (.bool (!plainF r.data.toList)):=by
 refine z_ac (cx:=z_dB w (Un [])) (z_hl w (Un [])) z_jS rfl rfl (β:=Va.z) [.c (.v (.string r))] 0 [] [] rfl rfl (Sat.start rfl) ?_
 refine z_ae (fun β w' hs=>z_oI w' r hr) ?_
 intro β w' hs
 exact hs.fin [] ⟨rfl,rfl⟩
theorem z_xj (w:World) (A:Option Addr) (l:List ByteArray) (c:Nat) (hr:Rd 1 A l.length (strs l) w) (hn:l.length<=1000000) (hs: ∀r∈l,r.size<=100000):
  Con Tryz.prog z_a2 #[.slice A l.length c,.func (.func z_aA) #[] #[]] w [] fun v Fs=> ∃i:Int,v= .int .i64 i/\(0<=i↔allPl l=false)/\Fs=[]:=by
 have g:=z_b3 w (Un [])
 refine z_ac (cx:=z_aX w (Un [])) g z_cw rfl rfl (β:=Va.z) [.c (.v (.slice A l.length c)),.c (.v (.func (.func z_aA) #[] #[]))] 0 [] [oldF w] rfl rfl (z_ay rfl) ?_
 refine z_ai 0 (fun i:Nat=>[(0,.c (.v (.slice A l.length c))),(1,.c (.v (.func (.func z_aA) #[] #[]))),(7,.c (.v (.int .i64 l.length))),(8,.c (.v (.int .i64 (i:Int))))]) (fun _=>[]) (fun _=>[oldF w])
  (fun i=>i<=l.length/\allPl (l.take i)=true) (fun i=>l.length - i) 0 ⟨Nat.zero_le _,rfl⟩ (Ent.same ⟨rfl,rfl,rfl,rfl,trivial⟩ rfl) g ?_
 rintro i ⟨hi,hpre⟩
 refine BIf.dec (fun hlt=>?_) (fun hge=>?_)
 ·have hlt0:(i:Int)<l.length:=hlt
  obtain ⟨y,hy,hym⟩:=at_lt (show i<l.length by omega)
  obtain ⟨ad,hA,_⟩:=hr.2 (by omega)
  refine ⟨ad,i,hA,rfl,by omega,.string y,fun β w' hs=>Rd.cell1 (by have h:=Rd.old hr (hs.get 0 rfl);rw [hA] at h;exact h) (by simp [strs,hy]),?_⟩
  have hys:=hs y hym
  obtain ⟨b,hb⟩: ∃b,plainF y.data.toList=b:=⟨_,rfl⟩
  refine Or.inl ⟨by kernel_rfl,?_⟩
  refine z_ae (v:= .bool (!b)) (fun β w' hs=>by rw [<-hb];exact z_v6 w' y hys) ?_
  cases b with
  | true=>
   refine ⟨((i+1:Nat):Int),by rw [wrap_i64 (by omega) (by omega)];rfl,?_⟩
   refine ⟨i+1,⟨by omega,?_⟩,by omega,Ent.same ⟨rfl,rfl,rfl,rfl,trivial⟩ rfl⟩
   rw [List.take_add_one,hy]
   unfold allPl at hpre ⊢
   rw [List.all_append,hpre]
   simp [hb]
  | false=>
   intro β w' hs
   refine hs.fin [] ⟨(i:Int),rfl,⟨fun _=>?_,fun _=>by omega⟩,rfl⟩
   cases q:allPl l with
   | false=>rfl
   | true=>rw [List.all_eq_true.1 q y hym] at hb;cases hb
 ·have hge0: ¬(i:Int)<l.length:=hge
  rw [List.take_of_length_le (by omega)] at hpre
  intro β w' hs
  exact hs.fin [] ⟨-1,rfl,⟨fun h=>absurd h (by decide),fun h=>by rw [hpre] at h;cases h⟩,rfl⟩
theorem z_xi (w:World) (A:Option Addr) (l:List ByteArray) (c:Nat) (hr:Rd 1 A l.length (strs l) w) (hn:l.length<=1000000) (hs_: ∀r∈l,r.size<=100000):
  Pu Tryz.prog z_aU #[.slice A l.length c,.func (.func z_aA) #[] #[]] w (.bool (!allPl l)):=by
 refine z_ac (cx:=z_aO w (Un [])) (z_bF w (Un [])) z_b7 rfl rfl (β:=Va.z) [.c (.v (.slice A l.length c)),.c (.v (.func (.func z_aA) #[] #[]))] 0 [] [oldF w] rfl rfl (z_ay rfl) ?_
 refine z_aa [] (fun β w' hs=>z_xj w' A l c (Rd.old hr (hs.get 0 rfl)) hn hs_) ?_
 rintro v Fs ⟨i,rfl,hi,rfl⟩
 intro β w' hs
 refine hs.fin [] ⟨?_,rfl⟩
 show Value.bool (decide (0<=i))=_
 cases q:allPl l with
 | false=>rw [decide_eq_true (hi.2 q)];rfl
 | true=>rw [decide_eq_false (fun h=>by rw [hi.1 h] at q;cases q)];rfl
structure CrdV where
 tenant:ByteArray
 user:ByteArray
 sec:SecV
 gen:Int
 rA:Option Addr
 rn:Nat
 rc:Nat
 revoked:Bool
def CrdV.ss (c:CrdV):List SL:= .v (.string c.tenant):: .v (.string c.user)::(c.sec.ss++[.v (.int .u64 c.gen),.v (.slice c.rA c.rn c.rc),.v (.bool c.revoked)])
def CrdV.vs (c:CrdV):List Value:= .string c.tenant:: .string c.user::(c.sec.vs++[.int .u64 c.gen,.slice c.rA c.rn c.rc,.bool c.revoked])
theorem z_vu (w:World) (x:CrdV) (l:List ByteArray) (ht:x.tenant.size<=100000) (hl:x.rn=l.length) (hr:Rd 1 x.rA l.length (strs l) w) (hn:l.length<=1000000) (hs_: ∀r∈l,r.size<=100000):
  Pu Tryz.prog z_fA #[.agg x.vs.toArray] w (.bool (plainF x.tenant.data.toList&&allPl l)):=by
 have g:=z_iI w (Un [])
 obtain ⟨tn,us,sc,gn,rA,rn,rc,rv⟩:=x
 simp only at ht hl hr
 subst hl
 refine z_ac (cx:=z_e8 w (Un [])) g z_lg rfl rfl (β:=Va.z) [.agg (CrdV.ss ⟨tn,us,sc,gn,rA,l.length,rc,rv⟩)] 0 [] [oldF w] rfl rfl (z_ay rfl) ?_
 refine z_ae (fun β w' hs=>z_oI w' tn ht) ?_
 show _
 generalize plainF tn.data.toList=b
 cases b with
 | false=>
  intro β w' hs
  exact (hs.keepB (List.nil_sublist _)).fin [] ⟨rfl,rfl⟩
 | true=>
  refine z_ae (fun β w' hs=>z_xi w' rA l rc (Rd.old hr (hs.get 0 rfl)) hn hs_) ?_
  intro β w' hs
  exact (hs.keepB (List.nil_sublist _)).fin [] ⟨by show Value.bool (!!allPl l)=_;rw [Bool.not_not];rfl,rfl⟩
def risB (l:List ByteArray):Bool:=decide (l.Pairwise tlt)&&decide (l.length<=8)
theorem z_uN (w:World) (A:Option Addr) (l:List ByteArray) (c:Nat) (hr:Rd 1 A l.length (strs l) w) (hn:l.length<=1000000):
  Pu Tryz.prog z_kl #[.slice A l.length c] w (.bool (risB l)):=by
 have g:=z_mg w (Un [])
 refine z_ac (cx:=z_fq w (Un [])) g z_pg rfl rfl (β:=Va.z) [.c (.v (.slice A l.length c))] 0 [] [oldF w] rfl rfl (z_ay rfl) ?_
 refine z_ai 0 (fun i:Nat=>[(0,.c (.v (.slice A l.length c))),(5,.c (.v (.int .i64 l.length))),(6,.c (.v (.int .i64 (i:Int))))]) (fun _=>[]) (fun _=>[oldF w])
  (fun i=>i<=l.length/\(l.take i).Pairwise tlt) (fun i=>l.length - i) 0 ⟨Nat.zero_le _,List.Pairwise.nil⟩ (Ent.same ⟨rfl,rfl,rfl,trivial⟩ rfl) g ?_
 rintro i ⟨hi,hpre⟩
 refine BIf.dec (fun hlt=>?_) (fun hge=>?_)
 ·have hlt0:(i:Int)<l.length:=hlt
  obtain ⟨y,hy,hym⟩:=at_lt (show i<l.length by omega)
  obtain ⟨ad,hA,_⟩:=hr.2 (by omega)
  refine z_aj g z_nh (by kernel_rfl) [] [oldF w] (subPerm [0]) ?_
  have hld: ∀ {β:Va} {n:Nat} {H:List Bk} {w':World},Sat (z_fq w (Un [])) β n H [oldF w] w'-> ∀k z,l[k]?=some z->w'.cell? (ad.add (k*1))=some (.string z):=fun hs k z hz=>Rd.cell1 (by have h:=Rd.old hr (hs.get 0 rfl);rw [hA] at h;exact h) (by simp [strs,hz])
  refine BIf.dec (fun hpos=>?_) (fun hpos=>?_)
  ·have hpos0:(0:Int)<(i:Int):=hpos
   obtain ⟨z,hz,hzm⟩:=at_lt (show i - 1<l.length by omega)
   refine ⟨((i - 1:Nat):Int),by rw [wrap_i64 (by omega) (by omega)];omega,?_⟩
   refine ⟨ad,i - 1,hA,rfl,by omega,.string z,fun β w' hs=>hld hs _ _ hz,?_⟩
   refine ⟨ad,i,hA,rfl,by omega,.string y,fun β w' hs=>hld hs _ _ hy,?_⟩
   obtain ⟨b,hb⟩: ∃b,Op.bytesLess z.toList y.toList=b:=⟨_,rfl⟩
   have hb2:=hb
   rw [z_gm] at hb2
   conv=>whnf
   rw [hb]
   cases b with
   | true=>
    have hzy:=of_decide_eq_true hb2
    refine ⟨((i+1:Nat):Int),by rw [wrap_i64 (by omega) (by omega)];rfl,?_⟩
    refine ⟨i+1,⟨by omega,?_⟩,by omega,Ent.same ⟨rfl,rfl,rfl,trivial⟩ rfl⟩
    rw [List.take_add_one,hy]
    refine List.pairwise_append.2 ⟨hpre,List.pairwise_singleton _ _,fun a ha b hb=>?_⟩
    obtain rfl:=List.mem_singleton.1 hb
    obtain ⟨k,hk⟩:=List.mem_iff_getElem?.1 ha
    have hki:k<i:=by have:=(List.getElem?_eq_some_iff.1 hk).1;rw [List.length_take] at this;omega
    rcases Nat.lt_or_ge k (i - 1) with h | h
    ·exact z_bv (z_l0 hpre h hk (by rw [List.getElem?_take,if_pos (by omega)];exact hz)) hzy
    ·obtain rfl:k=i - 1:=by omega
     rw [List.getElem?_take,if_pos hki,hz] at hk
     obtain rfl:=Option.some.inj hk
     exact hzy
   | false=>
    have hzy:=of_decide_eq_false hb2
    intro β w' hs
    refine hs.fin [] ⟨?_,rfl⟩
    unfold risB
    rw [decide_eq_false (fun q=>hzy (z_l0 q (show i - 1<i by omega) hz hy))]
    rfl
  ·have hpos0: ¬(0:Int)<(i:Int):=hpos
   obtain rfl:i=0:=by omega
   refine ⟨1,by rw [wrap_i64 (by omega) (by omega)];rfl,?_⟩
   exact ⟨1,⟨by omega,by rw [List.take_add_one,hy];exact List.pairwise_singleton _ _⟩,by omega,Ent.same ⟨rfl,rfl,rfl,trivial⟩ rfl⟩
 ·have hge0: ¬(i:Int)<l.length:=hge
  rw [List.take_of_length_le (by omega)] at hpre
  intro β w' hs
  refine hs.fin [] ⟨?_,rfl⟩
  show Value.bool (decide ((l.length:Int)<=8))=_
  unfold risB
  rw [decide_eq_true hpre,Bool.true_and]
  congr 1
  exact decide_eq_decide.2 (by omega)
end Go.Proofs.YtloeaiafphkjnaaGreatDoor.Sx
namespace Go.Proofs.YtloeaiafphkjnaaGreatDoor.Sx
open Go
section
variable {cx:Cx} {n:Nat} {H:List Bk} {F:List Fact} {w:World}
theorem z_qc {f:FuncId} {fn:Func} {c:Code} {R:Value->World->Prop} (g:Good cx) (hf:cx.P.funcs[f]?=some fn) (hb:fn.body=some c) (hN:fn.ntmps=cx.N)
  {β:Va} (svs:List SV) (n:Nat) (H:List Bk) (F:List Fact) (hlen:Nat.ble svs.length cx.N=true) (hltB:allLt n svs=true) (hs:Sat cx β n H F w)
  (hw:Tri cx c (fnPost cx fn.results.toList R) n (pairs 0 svs) H F) (hr:cx.rnd=none:=by rfl) (hm:β.marks=[]:=by rfl) (hp0:cx.pn=[]:=by rfl):
  Calls cx.P f (svs.map (SV.val β)).toArray w fun e w'=> ∃v,e= .returned v/\R v w':=by
 have hfe:cx.fence=Fence.wide:=by unfold Cx.fence;rw [hr]
 refine (callsIn_wide (n:=0)).1 (callsIn_of_wp_marks hf hb trivial ?_)
 have hlt:=z_mG hltB
 have hlen':svs.length<=cx.N:=Nat.le_of_ble_eq_true hlen
 have hi:Inv cx β n (pairs 0 svs) H F {tmps:=(svs.map (SV.val β)).toArray++Array.replicate (fn.ntmps - (svs.map (SV.val β)).toArray.size) undef,defers:=[]} w:=by
  refine ⟨fun t s ht=>?_,?_,by rw [hm];rfl,fun t s ht=>?_,hs⟩
  ·obtain ⟨j,rfl,hj⟩:=z_ik svs 0 t s ht
   have hjl:j<svs.length:=(List.getElem?_eq_some_iff.1 hj).1
   rw [Array.getElem?_append_left (by simp;omega)]
   simp [hj]
  ·simp [hN];omega
  ·obtain ⟨j,rfl,hj⟩:=z_ik svs 0 t s ht
   exact hlt s (List.mem_of_getElem? hj)
 have h0:=hw.run β _ w hi
 rw [hfe] at h0
 refine wpIn_mono h0 fun e a' w' hq=>?_
 have key:After cx (RetWP cx fn.results.toList R) a' w'->LeavesInM Fence.wide 0 cx.P fn a'.tmps (fun e w'=> ∃v,e= .returned v/\R v w') a'.defers .returning w':=by
  rintro ⟨β',n',env',H',F',h',hp⟩
  rw [<-hfe]
  have hd:=h'.df
  obtain ⟨tmps,defers⟩:=a'
  simp only at hd
  subst hd
  exact z_nf g hr hp0 _ β' w' rfl h' hp
 cases e with
 | normal=>exact key hq
 | ret=>exact key hq
 | exit id=>obtain ⟨_,_,_,_,_,_,hq⟩:=hq;exact hq.elim
 | goto l=>obtain ⟨_,_,_,_,_,_,hq⟩:=hq;exact hq.elim
 | panic ch=>exact hq.elim
 | outgrown=>exact hq.elim
theorem z_d7 {f:FuncId} {fn:Func} {c:Code} {Gs:List Fact} {R:Value->List Fact->Prop} (g:Good cx) (hf:cx.P.funcs[f]?=some fn) (hb:fn.body=some c) (hN:fn.ntmps=cx.N)
  {β:Va} (svs:List SV) (n:Nat) (H:List Bk) (F:List Fact) (hlen:Nat.ble svs.length cx.N=true) (hltB:allLt n svs=true) (hs:Sat cx β n H F w)
  (hw:Tri cx c (fnPost cx fn.results.toList (Fin w Gs R)) n (pairs 0 svs) H F) (hr:cx.rnd=none:=by rfl) (hm:β.marks=[]:=by rfl) (hp0:cx.pn=[]:=by rfl):
  Con cx.P f (svs.map (SV.val β)).toArray w Gs R:=z_qc g hf hb hN svs n H F hlen hltB hs hw hr hm hp0
theorem z_ao (g:Good cx) {c1 c2:Code} {Q:Exit->KT} {env:Env} (h:cwp cx c1 (andThen (fun n env H F=>Tri cx c2 Q n env H F) Q) n env H F):Tri cx (.seq c1 c2) Q n env H F:=by
 refine ⟨fun β a w hi=>wpIn_seq (wpIn_mono ((z_aZ g c1 _ n env H F h).run β a w hi) fun e a w hq=>?_)⟩
 cases e with
 | normal=>
  obtain ⟨β',n',env',H',F',h',hq'⟩:=hq
  exact hq'.run β' a w h'
 | exit i=>exact hq
 | goto l=>exact hq
 | ret=>exact hq
 | panic c=>exact hq
 | outgrown=>exact hq
theorem z_eT (g:Good cx) {c:Code} {Q:Exit->KT} {env:Env} (h:cwp cx c Q n env H F):Tri cx c Q n env H F:=z_aZ g c Q n env H F h
end
theorem z_ce {cx:Cx} {n:Nat} {H:List Bk} {F:List Fact} {ι:Type} (g:Good cx) {c1 c2:Code} {Q:Exit->KT} {env:Env} (T:ι->Prop) (n':Nat) (E:ι->Env) (HH:ι->List Bk) (FF:ι->List Fact) (hkey: ∀i,T i->Tri cx c2 Q n' (E i) (HH i) (FF i))
  (h:cwp cx c1 (andThen (fun n env H F=>EntX cx n env H F T n' E HH FF) Q) n env H F):Tri cx (.seq c1 c2) Q n env H F:=by
 refine ⟨fun β a w hi=>wpIn_seq (wpIn_mono ((z_aZ g c1 _ n env H F h).run β a w hi) fun e a w hq=>?_)⟩
 cases e with
 | normal=>
  obtain ⟨β',n',env',H',F',h',hq'⟩:=hq
  exact (z_gG T _ E HH FF hkey hq').run β' a w h'
 | exit i=>exact hq
 | goto l=>exact hq
 | ret=>exact hq
 | panic c=>exact hq
 | outgrown=>exact hq
end Go.Proofs.YtloeaiafphkjnaaGreatDoor.Sx
namespace Go.Proofs.YtloeaiafphkjnaaGreatDoor.Sx
open Go
theorem z_s5 {cx:Cx} {c:Code} {Q:Exit->KT} {n:Nat} {env:Env} {H:List Bk} {F F':List Fact} (hS: ∀β w,Sat cx β n H F w->Sat cx β n H F' w) (h:Tri cx c Q n env H F'):Tri cx c Q n env H F:=
 ⟨fun β a w hi=>h.run β a w ⟨hi.ag,hi.size,hi.df,hi.lte,hS β w hi.sat⟩⟩
theorem z_pW {cx:Cx} {c:Code} {Q:Exit->KT} {n:Nat} {env:Env} {H:List Bk} {F:List Fact} (id:Nat) {ty:TypeId} {cs:List SL} (vs:Nat->List Value) (h1:tyAt H id=some ty) (h2:cellsAt H id=some cs) (h3: ∀b,allV (cs.map (SL.re id b))=some (vs b))
  (h: ∀b,Tri cx c Q n (envRe id b env) (bksRe id b H) (bkF b ty (vs b)::F)):Tri cx c Q n env H F:=
 z_gG (ι:=Nat) (fun _=>True) n (fun b=>envRe id b env) (fun b=>bksRe id b H) (fun b=>bkF b ty (vs b)::F) (fun b _=>h b) (EntX.reify id vs h1 h2 h3 (fun b=>EntX.of b trivial ⟨fun β a w hi=>⟨β,rfl,rfl,hi⟩⟩))
end Go.Proofs.YtloeaiafphkjnaaGreatDoor.Sx
namespace Go.Proofs.YtloeaiafphkjnaaGreatDoor.Sx
open Go
attribute [local irreducible] Calls
def crRd (c:Crd):Fact where
 own:=false
 D:=fun k=>(secF c.sec.x c.sec.a).D k\/(rdF 1 c.rA c.roles.length (strs c.roles)).D k
 p:=fun w=>SRd c.sec.x c.sec.a w/\Rd 1 c.rA c.roles.length (strs c.roles) w
 st:=fun w w' hs h=>⟨(secF c.sec.x c.sec.a).st w w' (fun k hk=>hs k (.inl hk)) h.1,(rdF 1 c.rA c.roles.length (strs c.roles)).st w w' (fun k hk=>hs k (.inr hk)) h.2⟩
def loadA (X:ASto) (c:ACrd):Int×ASto:=
 if (plainF c.tenant.data.toList&&allPl c.roles)=false then (5,X)
 else if¬((nameA c.user).2=0/\(nameA c.user).1=c.user/\risB c.roles=true/\rightA c.sec=true/\1<=c.gen/\c.gen<=greatN) then (4,X)
 else match aten X.ts c.tenant with
  | none=>if 8<=X.ts.length then (8,X) else (0,{X with ts:=X.ts++[(c.tenant,[c])],last:=max X.last c.gen})
  | some us=>if (ausr us c.user).isSome then (7,X) else if 32<=us.length then (8,X) else (0,{X with ts:=atenU X.ts c.tenant (fun us=>us++[c]),last:=max X.last c.gen})
def LdP (S:Sto) (c:Crd):Option (List Ten×Ten×List Ten)->Prop
 | some (A,T,B)=>S.ts=A++T::B/\mlook T.m c.user=none/\ ∀cr:Crd,cr.a=c.a->loadA S.a c.a=(0,(Sto.a {S with ts:=A++ {T with us:=T.us++[cr]}::B,last:=max S.last c.gen}))
 | none=>mlook S.ml c.tenant=none/\loadA S.a c.a=(0,{S.a with ts:=S.a.ts++[(c.tenant,[c.a])],last:=max S.last c.gen})
structure LdJ where
 S:Sto
 A:List Ten
 T:Ten
 B:List Ten
structure LdJ.Ok (j:LdJ) (S:Sto) (c:Crd):Prop where
 ts:j.S.ts=j.A++j.T::j.B
 b:j.S.b=S.b
 last:j.S.last=S.last
 no:mlook j.T.m c.user=none
 res: ∀cr:Crd,cr.a=c.a->loadA S.a c.a=(0,(Sto.a {j.S with ts:=j.A++ {j.T with us:=j.T.us++[cr]}::j.B,last:=max S.last c.gen}))
def z_uF:Plan:= .take 0 (.take 1 (.take 2 (.take 3 (.take 4 (.take 5 (.take 6 (.brk 7 .done)))))))
def z_tD:Plan:= .take 0 (.take 1 (.take 2 (.take 3 (.take 5 (.take 6 (.exec 4 (.take 7 (.exec 8 (.take 9 (.brk 10 .done))))))))))
set_option maxHeartbeats 1000000 in
theorem z_ww (w:World) (S:Sto) (c:Crd) (ht:c.tenant.size<=100000) (hu:c.user.size<=100000) (hrs: ∀r∈c.roles,r.size<=100000) (hrl:c.roles.length<=100000) (hz:CSz c.a) (hm:Mem w [stoF S,crRd c,namF]):
  Con Tryz.prog z_fQ #[ptr S.b,.agg c.vs.toArray] w [stoF S] (stoOut S (loadA S.a c.a)):=by
 have g:=z_iK w (Un [stoF S])
 have hrd:=hm.fact (crRd c) (by simp)
 have hri:rightN c.sec.x=rightA c.sec.a:=hrd.1.right
 refine z_d7 (cx:=z_cn w (Un [stoF S])) g z_k3 rfl rfl (β:=Va.z) [.c (.v (ptr S.b)),.agg c.ss] 0 [] [stoF S,crRd c,namF] rfl rfl (hm.sat0 rfl (ownIn (Gs:=[stoF S]) (fun f hf=>by
  simp only [List.mem_cons,List.not_mem_nil,or_false] at hf
  rcases hf with rfl | rfl<;>rfl))) ?_
 obtain ⟨p,e,hpe⟩: ∃p e,nameA c.user=(p,e):=⟨_,_,rfl⟩
 refine z_ao g ?_
 refine z_ao g ?_
 refine z_ao g ?_
 refine z_ae (v:= .tuple #[.string p,.int .i64 e]) (fun β w' hs=>by
  have h:=z_tu w' c.user hu (z_nF (hs.get 2 rfl))
  rw [hpe] at h
  exact h) ?_
 refine z_ao g ?_
 refine z_ae (fun β w' hs=>z_hV w' S c.tenant (hs.get 0 rfl) (hs.getLt 0 rfl)) ?_
 refine z_ce (ι:=Option (List Ten×Ten×List Ten)) g (LdP S c) 1 (fun i=>[(0,.c (.v (ptr S.b))),(3,.c (.p 0 0)),(5,.c (.v (.string c.user))),(7,.c (.v (match i with | some x=> .map (some x.2.1.b) | none=> .map none)))]) (fun _=>[⟨0,z_ak,c.ss⟩]) (fun _=>[stoF S,crRd c,namF]) ?_ ?_
 rotate_left
 ·refine z_ae (fun β w' hs=>z_vu w' ⟨c.tenant,c.user,c.sec.x,c.gen,c.rA,c.roles.length,c.rc,c.revoked⟩ c.roles ht rfl (show SRd _ _ w'/\_ from hs.get 1 rfl).2 (by omega) hrs) ?_
  show _
  generalize hpl:(plainF c.tenant.data.toList&&allPl c.roles)=bp
  cases bp with
  | false=>
   intro β w' hs
   exact (hs.keepB (List.nil_sublist _)).fin [0] (z_aw (by unfold loadA;rw [if_pos (show (plainF c.a.tenant.data.toList&&allPl c.a.roles)=false from hpl)]))
  | true=>
  have hld:loadA S.a c.a=if¬(e=0/\p=c.user/\risB c.roles=true/\rightA c.sec.a=true/\1<=c.gen/\c.gen<=greatN) then ((4,S.a):Int×ASto) else match aten S.a.ts c.tenant with
    | none=>if 8<=S.a.ts.length then (8,S.a) else (0,{S.a with ts:=S.a.ts++[(c.tenant,[c.a])],last:=max S.last c.gen})
    | some us=>if (ausr us c.user).isSome then (7,S.a) else if 32<=us.length then (8,S.a) else (0,{S.a with ts:=atenU S.a.ts c.tenant (fun us=>us++[c.a]),last:=max S.last c.gen}):=by
   unfold loadA
   rw [if_neg (show¬(plainF c.a.tenant.data.toList&&allPl c.a.roles)=false from by show¬(plainF c.tenant.data.toList&&allPl c.roles)=false;rw [hpl];decide)]
   rw [show nameA c.a.user=(p,e) from hpe]
   rfl
  have bad: ∀(h: ¬(e=0/\p=c.user/\risB c.roles=true/\rightA c.sec.a=true/\1<=c.gen/\c.gen<=greatN)),loadA S.a c.a=(4,S.a):=fun h=>by rw [hld,if_pos h]
  have badF: ∀(h: ¬(e=0/\p=c.user/\risB c.roles=true/\rightA c.sec.a=true/\1<=c.gen/\c.gen<=greatN)) {β:Va} {n:Nat} {H:List Bk} {w':World},Sat (z_cn w (Un [stoF S])) β n H [stoF S,crRd c,namF] w'->Fin w [stoF S] (stoOut S (loadA S.a c.a)) (.int .i64 4) w':=
   fun h β n H w' hs=>(hs.keepB (List.nil_sublist _)).fin [0] (z_aw (bad h))
  refine BIf.not (BIf.dec (fun he=>?_) (fun he=>?_))
  rotate_left
  ·have he0: ¬e=0:=he
   intro β w' hs
   exact badF (fun h=>he0 h.1) hs
  have he0:e=0:=he
  refine BIf.not (BIf.dec (fun hpu=>?_) (fun hpu=>?_))
  rotate_left
  ·have hpu0: ¬p=c.user:=hpu
   intro β w' hs
   exact badF (fun h=>hpu0 h.2.1) hs
  have hpu0:p=c.user:=hpu
  refine z_ae (fun β w' hs=>z_uN w' c.rA c.roles c.rc (show SRd _ _ w'/\_ from hs.get 1 rfl).2 (by omega)) ?_
  generalize hrb:risB c.roles=rb at badF
  cases rb with
  | false=>
   intro β w' hs
   exact badF (fun h=>by cases h.2.2.1) hs
  | true=>
  refine z_ae (fun β w' hs=>z_vi w' c.sec.x) ?_
  rw [hri]
  generalize hrr:rightA c.sec.a=rr at badF
  cases rr with
  | false=>
   intro β w' hs
   exact badF (fun h=>by cases h.2.2.2.1) hs
  | true=>
  obtain ⟨gi,hgi⟩: ∃gi:Int,(c.gen:Int)=gi:=⟨_,rfl⟩
  refine BIf.dec (fun h1=>?_) (fun h1=>?_)
  ·have h10:(c.gen:Int)<1:=h1
   intro β w' hs
   exact badF (fun h=>by omega) hs
  have h10: ¬(c.gen:Int)<1:=h1
  refine BIf.dec (fun h2=>?_) (fun h2=>?_)
  ·have h20:(9007199254740992:Int)<(c.gen:Int):=h2
   intro β w' hs
   exact badF (fun h=>by have:=h.2.2.2.2.2;unfold greatN at this;omega) hs
  have h20: ¬(9007199254740992:Int)<(c.gen:Int):=h2
  rw [if_neg (fun h=>h ⟨he0,hpu0,hrb,hrr,by omega,by unfold greatN;omega⟩)] at hld
  clear bad badF
  subst hpu0
  rcases z_cW c.tenant S.ts with ⟨A,T,B,eT,h0,hna,hlk,hat,hup,_⟩ | ⟨hlk,hat,hte⟩
  ·rw [h0]
   rw [show aten S.a.ts c.tenant=_ from hat] at hld
   refine ⟨.pointer none,fun w=>z_h4 w,T.m,mlook T.m c.user,fun β w' hs=>z_nP (z_jV (hs.get 0 rfl) eT),rfl,?_⟩
   rcases z_iz c.user T.us with ⟨U,c2,V,eU,q0,q1,q2,q3,_⟩ | ⟨q1,q2,q3⟩
   ·rw [show mlook T.m c.user=_ from q2]
    have hld2:loadA S.a c.a=(7,S.a):=by rw [hld];exact if_pos (by rw [show ausr (T.us.map Crd.a) c.user=_ from q3];rfl)
    intro β w' hs
    exact (hs.keepB (List.nil_sublist _)).fin [0] (z_aw hld2)
   rw [show mlook T.m c.user=_ from q1]
   have hml:T.m.length=(T.us.map Crd.a).length:=by simp [Ten.m]
   have hau: ¬(ausr (T.us.map Crd.a) c.user).isSome=true:=by rw [show ausr (T.us.map Crd.a) c.user=none from q2];simp
   refine ⟨T.m,fun β w' hs=>z_nP (z_jV (hs.get 0 rfl) eT),?_⟩
   refine BIf.dec (fun hf=>?_) (fun hf=>?_)
   ·have hf0:(32:Int)<=(T.m.length:Int):=hf
    have hld2:loadA S.a c.a=(8,S.a):=by rw [hld];show (if _ then _ else if _ then _ else _)=_;rw [if_neg hau,if_pos (by omega)]
    intro β w' hs
    exact (hs.keepB (List.nil_sublist _)).fin [0] (z_aw hld2)
   have hf0: ¬(32:Int)<=(T.m.length:Int):=hf
   have hld2:loadA S.a c.a=(0,{S.a with ts:=atenU S.a.ts c.tenant (fun us=>us++[c.a]),last:=max S.last c.gen}):=by rw [hld];show (if _ then _ else if _ then _ else _)=_;rw [if_neg hau,if_neg (by omega)]
   refine EntX.of (some (A,T,B)) ⟨eT,q1,fun cr hcr=>?_⟩ (Ent.mk' ⟨rfl,rfl,rfl,rfl,trivial⟩ rfl (fun β w' hs=>hs))
   rw [hld2]
   have k8:=hup {T with us:=T.us++[cr]} (fun us=>us++[c.a]) hna (by rw [List.map_append];show _++[cr.a]=_;rw [hcr])
   show _=(0,ASto.mk _ _ _)
   rw [k8]
   rfl
  ·rw [hte]
   rw [show aten S.a.ts c.tenant=none from hat] at hld
   refine ⟨.pointer none,fun w=>z_h4 w,?_⟩
   have hl:=z_wF S
   refine ⟨.map (some S.m),fun β w' hs=>bkc (z_gX (hs.get 0 rfl)) rfl,?_⟩
   refine ⟨S.ml,fun β w' hs=>z_mC (hs.get 0 rfl),?_⟩
   refine BIf.dec (fun hf=>?_) (fun hf=>?_)
   ·have hf0:(8:Int)<=(S.ml.length:Int):=hf
    have hld2:loadA S.a c.a=(8,S.a):=by rw [hld];show (if _ then _ else _)=_;rw [if_pos (by omega)]
    intro β w' hs
    exact (hs.keepB (List.nil_sublist _)).fin [0] (z_aw hld2)
   have hf0: ¬(8:Int)<=(S.ml.length:Int):=hf
   have hld2:loadA S.a c.a=(0,{S.a with ts:=S.a.ts++[(c.tenant,[c.a])],last:=max S.last c.gen}):=by rw [hld];show (if _ then _ else _)=_;rw [if_neg (by omega)]
   exact EntX.of none ⟨hlk,hld2⟩ (Ent.mk' ⟨rfl,rfl,rfl,rfl,trivial⟩ rfl (fun β w' hs=>hs))
 intro i hi
 refine z_ce (ι:=LdJ) g (fun j=>j.Ok S c) 1 (fun j=>[(0,.c (.v (ptr S.b))),(3,.c (.p 0 0)),(5,.c (.v (.string c.user))),(7,.c (.v (.map (some j.T.b))))]) (fun _=>[⟨0,z_ak,c.ss⟩]) (fun j=>[stoF j.S,crRd c,namF]) ?_ ?_
 rotate_left
 ·rcases i with _ | ⟨A,T,B⟩
  ·obtain ⟨hlk,hres⟩:=hi
   intro mb
   refine z_aj g z_uF (by kernel_rfl) [⟨0,z_ak,c.ss⟩] [stoF S] (subPerm [1]) ?_
   refine ⟨.map (some S.m),fun β w' hs=>bkc (z_gX (hs.get 0 rfl)) rfl,?_⟩
   refine ⟨[⟨0,z_ak,c.ss⟩],fun _=>[stoF {S with ts:=S.ts++[⟨mb,c.tenant,[]⟩]},crRd c,namF],fun β w' hs=>?_,fun _=>?_⟩
   ·have q1:=hs.unsep 1 rfl
    obtain ⟨w2,q2,q3⟩:=q1.mapPut g 1 rfl (t:=z_az) c.tenant (.map (some mb))
    rw [z_mm hlk] at q3
    exact ⟨w2,0,q2,q3.recut [0,1,2,3] z_rd⟩
   refine EntX.of ⟨{S with ts:=S.ts++[⟨mb,c.tenant,[]⟩]},S.ts,⟨mb,c.tenant,[]⟩,[]⟩ ⟨rfl,rfl,rfl,rfl,fun cr hcr=>?_⟩ (Ent.mk' ⟨rfl,rfl,rfl,rfl,trivial⟩ rfl (fun β w' hs=>hs))
   have e:(S.ts++[(⟨mb,c.tenant,[cr]⟩:Ten)]).map Ten.a=S.a.ts++[(c.tenant,[c.a])]:=by
    rw [List.map_append]
    show S.a.ts++[(c.tenant,[cr.a])]=_
    rw [hcr]
   rw [hres]
   show _=((0:Int),ASto.mk ((S.ts++[(⟨mb,c.tenant,[cr]⟩:Ten)]).map Ten.a) _ _)
   rw [e]
   rfl
  ·obtain ⟨h1,h2,h3⟩:=hi
   exact EntX.of ⟨S,A,T,B⟩ ⟨h1,rfl,rfl,h2,h3⟩ (Ent.mk' ⟨rfl,rfl,rfl,rfl,trivial⟩ rfl (fun β w' hs=>hs))
 rintro ⟨S2,A,T,B⟩ ⟨eT,hb,hl,hno,hres⟩
 simp only at eT hb hl hno hres
 refine z_ao g ?_
 refine z_aa [] (fun β w' hs=>z_uj w' c (show SRd c.sec.x c.sec.a w'/\Rd 1 c.rA c.roles.length (strs c.roles) w' from hs.get 1 rfl).1 (show SRd c.sec.x c.sec.a w'/\Rd 1 c.rA c.roles.length (strs c.roles) w' from hs.get 1 rfl).2 hz) ?_
 rintro v Fs ⟨c2,hc2,rfl,rfl⟩
 refine z_eT g ?_
 have hcr: ∀yb,({c2 with b:=yb}:Crd).a=c.a:=fun _=>hc2
 have hcu: ∀yb,({c2 with b:=yb}:Crd).user=c.user:=fun _=>congrArg ACrd.user hc2
 refine ⟨[⟨0,z_ak,c.ss⟩],fun yb=>[bkF S2.b z_am S2.vs,bkF yb z_ak ({c2 with b:=yb}:Crd).vs,sepF ({c2 with b:=yb}:Crd).parts,mapF T.b (T.m++[(c.user,ptr yb)]),sepF (T.us.map crdF),mapF S2.m S2.ml,sepF ((A++B).map tenF),crRd c,namF],fun β w' hs=>?_,fun yb=>?_⟩
 ·have k1:=hs.ofBk
  have k2:=k1.strsRow 1 rfl
  have k3:=k2.sep [1,5,4,3,2] rfl ⟨rfl,rfl,rfl,rfl,rfl,trivial⟩
  have k4:=k3.recut [2] (z_tl eT) rfl rfl ⟨rfl,trivial⟩ ⟨rfl,rfl,rfl,rfl,rfl,trivial⟩
  obtain ⟨w2,k5,k6⟩:=k4.mapPut g 1 rfl (t:=z_aS) c.user (ptr (β 1))
  rw [z_mm hno] at k6
  exact ⟨w2,β 1,k5,k6.perm [0,6,5,1,2,3,4,7,8]⟩
 obtain ⟨ny,hny⟩: ∃ny:Int,((max S2.last c.gen:Nat):Int)=ny:=⟨_,rfl⟩
 refine z_aj g z_tD (by kernel_rfl) [⟨0,z_ak,c.ss⟩] [bkF S2.b z_am S2.vs] (subPerm [0]) ?_
 refine ⟨.int .u64 (S2.last:Int),fun β w' hs=>by rw [<-hb];exact bkc (hs.get 0 rfl) rfl,?_⟩
 refine ⟨subPerm [0],?_⟩
 refine ⟨ny,by show max (S2.last:Int) (c.gen:Int)=ny;rw [<-hny];omega,?_⟩
 refine ⟨subPerm [0],?_⟩
 refine ⟨[bkF S2.b z_am [.map (some S2.m),.int .u64 ny,.int .u64 S2.reads],bkF yb z_ak ({c2 with b:=yb}:Crd).vs,sepF ({c2 with b:=yb}:Crd).parts,mapF T.b (T.m++[(c.user,ptr yb)]),sepF (T.us.map crdF),mapF S2.m S2.ml,sepF ((A++B).map tenF),crRd c,namF],fun β w' hs=>by rw [<-hb];exact hs.bkSet 0 (o:=1) (us:=[.int .u64 ny]) rfl (by show 2<=3;decide) (fun u hu=>by obtain rfl:=List.mem_singleton.1 hu;rfl),?_⟩
 intro β w' hs
 rw [<-hny] at hs
 have k:=(hs.keepB (List.nil_sublist _)).recut [0,1,2,3,4,5,6] (z_v8 (S:=S2) (c:= {c2 with b:=yb}) (last:=max S2.last c.gen) eT (hcu yb)) rfl rfl ⟨rfl,rfl,rfl,rfl,rfl,rfl,rfl,trivial⟩
 have hr:=hres {c2 with b:=yb} (hcr yb)
 refine k.fin [0] ⟨{S2 with ts:=A++ {T with us:=T.us++[{c2 with b:=yb}]}::B,last:=max S2.last c.gen},by rw [hr];rfl,?_,hb,rfl⟩
 rw [hr,hl]
theorem Rd.cutN {size:Nat} {w:World} {A:Option Addr} {xs:List Value} {n:Nat} (h:Rd size A n xs w) {c i j:Nat} (hn:n<=c) (hij:i<=j) (hj:j<=n):Rd size (cutA A c i size) (j - i) ((xs.drop (i*size)).take ((j - i)*size)) w:=by
 have hl:=h.1
 have hle:i*size+(j - i)*size<=n*size:=by rw [<-Nat.add_mul];exact Nat.mul_le_mul_right _ (by omega)
 refine ⟨by rw [List.length_take,List.length_drop];omega,fun hp=>?_⟩
 obtain ⟨ad,rfl,hc⟩:=h.2 (by omega)
 have hne: ¬c=i:=by omega
 refine ⟨ad.add (i*size),by simp [cutA,hne],fun k u hk=>?_⟩
 rw [z_mt]
 refine hc (i*size+k) u ?_
 rw [<-hk]
 have hkl:k<(j - i)*size:=by
  have:=(List.getElem?_eq_some_iff.1 hk).1
  rw [List.length_take] at this
  omega
 rw [List.getElem?_take,if_pos hkl,List.getElem?_drop]
theorem z_sK {l:List ByteArray} {i:Nat} {x y:ByteArray} (hy:l[i]?=some y) (h:hasT (l.take i) x=false) (hne: ¬y=x):hasT (l.take (i+1)) x=false:=by
 refine z_qC fun q=>?_
 rw [List.take_add_one,hy] at q
 rcases List.mem_append.1 q with q | q
 ·rw [hasT_iff.2 q] at h;cases h
 ·exact hne (List.mem_singleton.1 q).symm
theorem inT_c (w:World) (A:Option Addr) (l:List ByteArray) (c:Nat) (x:ByteArray) (hr:Rd 1 A l.length (strs l) w) (hn:l.length<=1000000):
  Pu Tryz.prog z_f0 #[.slice A l.length c,.string x] w (.bool (hasT l x)):=by
 have g:=z_i9 w (Un [])
 refine z_ac (cx:=z_e9 w (Un [])) g z_la rfl rfl (β:=Va.z) [.c (.v (.slice A l.length c)),.c (.v (.string x))] 0 [] [oldF w] rfl rfl (z_ay rfl) ?_
 refine z_ai 0 (fun i:Nat=>[(1,.c (.v (.string x))),(7,.c (.v (.slice A l.length c))),(8,.c (.v (.int .i64 l.length))),(9,.c (.v (.int .i64 (i:Int))))]) (fun _=>[]) (fun _=>[oldF w])
  (fun i=>i<=l.length/\hasT (l.take i) x=false) (fun i=>l.length - i) 0 ⟨Nat.zero_le _,rfl⟩ (Ent.same ⟨rfl,rfl,rfl,rfl,trivial⟩ rfl) g ?_
 rintro i ⟨hi,hpre⟩
 refine BIf.dec (fun hlt=>?_) (fun hge=>?_)
 ·have hlt0:(i:Int)<l.length:=hlt
  obtain ⟨y,hy,hym⟩:=at_lt (show i<l.length by omega)
  obtain ⟨ad,hA,_⟩:=hr.2 (by omega)
  refine ⟨ad,i,hA,rfl,by omega,.string y,fun β w' hs=>Rd.cell1 (by have h:=Rd.old hr (hs.get 0 rfl);rw [hA] at h;exact h) (by simp [strs,hy]),?_⟩
  refine BIf.dec (fun hxy=>?_) (fun hxy=>?_)
  ·have hxy0:y=x:=hxy
   intro β w' hs
   exact hs.fin [] ⟨by rw [hasT_iff.2 (hxy0▸hym)];rfl,rfl⟩
  ·have hxy0: ¬y=x:=hxy
   refine ⟨((i+1:Nat):Int),by rw [wrap_i64 (by omega) (by omega)];rfl,?_⟩
   exact ⟨i+1,⟨by omega,z_sK hy hpre hxy0⟩,by omega,Ent.same ⟨rfl,rfl,rfl,rfl,trivial⟩ rfl⟩
 ·have hge0: ¬(i:Int)<l.length:=hge
  rw [List.take_of_length_le (by omega)] at hpre
  rw [hpre]
  intro β w' hs
  exact hs.fin [] ⟨rfl,rfl⟩
theorem put_c (w:World) (A:Option Addr) (l:List ByteArray) (c:Nat) (x:ByteArray) (hr:Rd 1 A l.length (strs l) w) (hn:l.length<=1000000) (hlc:l.length<=c) (hs:l.Pairwise tlt):
  Con Tryz.prog z_e0 #[.slice A l.length c,.string x] w [] fun v Fs=> ∃A' c',v= .slice A' (insT l (rank l x) x).length c'/\(insT l (rank l x) x).length<=c'/\Fs=[srowF A' (insT l (rank l x) x) c']:=by
 have g:=z_hZ w (Un [])
 have hml:=maxLen_eq
 refine z_ac (cx:=z_ek w (Un [])) g z_kP rfl rfl (β:=Va.z) [.c (.v (.slice A l.length c)),.c (.v (.string x))] 0 [] [oldF w] rfl rfl (z_ay rfl) ?_
 refine z_pb (κ:=Nat) 0 (fun i=>i<=l.length/\rank l x=i) 0 (fun i=>[(0,.c (.v (.slice A l.length c))),(1,.c (.v (.string x))),(5,.c (.v (.int .i64 (i:Int))))]) (fun _=>[]) (fun _=>[oldF w]) ?_ ?_
 ·rintro i ⟨hi,hrk⟩
  rw [hrk]
  have hil:=z_rj (x:=x) hi
  have hsl:=z_cX l
  have hA1: ∀w',(oldF w).p w'->Rd 1 (cutA A c 0 1) i ((strs l).take i) w':=fun w' ho=>by
   have h:=(Rd.old hr ho).cutN hlc (Nat.zero_le i) hi
   rw [Nat.sub_zero,Nat.zero_mul,List.drop_zero,Nat.mul_one] at h
   exact h
  have hA2: ∀w',(oldF w).p w'->Rd 1 (cutA A c i 1) (l.length - i) ((strs l).drop i) w':=fun w' ho=>by
   have h:=(Rd.old hr ho).cutN hlc hi (Nat.le_refl _)
   rw [Nat.mul_one,Nat.mul_one,List.take_of_length_le (by rw [List.length_drop];omega)] at h
   exact h
  refine z_aj g z_iA (by kernel_rfl) [] [oldF w] (subPerm [0]) ?_
  refine ⟨c,i,0,i,c,_,rfl,rfl,rfl,Nat.le_refl _,by omega,Nat.zero_le _,rfl,rfl,rfl,?_⟩
  refine ⟨c,l.length,i,l.length - i,c - i,_,rfl,rfl,rfl,Nat.le_refl _,by omega,hi,rfl,rfl,rfl,?_⟩
  refine ⟨?_,?_⟩
  ·intro b0
   refine ⟨subPerm [1],?_⟩
   refine ⟨?_,?_⟩
   ·refine ⟨0,0,i,[],(strs l).take i,(strs l).take i,rfl,fun β w' hs=>hA1 w' (hs.get 1 rfl),fun u hu=>z_cU l u (List.mem_of_mem_take hu),Nat.zero_add _,rfl,by omega,by show i*16<=_;omega,?_⟩
    intro A1 c1 p1 _ _
    refine ⟨subPerm [1],?_⟩
    intro b1
    refine ⟨subPerm [2],?_⟩
    refine ⟨1,i,i+1,(strs l).take i,[.string x],(strs l).take i++[.string x],rfl,fun β w' hs=>z_an (hs.get 0 rfl),(fun u hu=>by obtain rfl:=List.mem_singleton.1 hu;rfl),rfl,rfl,by omega,by show (i+1)*16<=_;omega,?_⟩
    intro A2 c2 p2 _ _
    refine ⟨subPerm [2],?_⟩
    refine ⟨1,i+1,l.length+1,(strs l).take i++[.string x],(strs l).drop i,strs (insT l i x),rfl,fun β w' hs=>hA2 w' (hs.get 2 rfl),fun u hu=>z_cU l u (List.mem_of_mem_drop hu),by omega,by rw [z_im];simp,by omega,by show (l.length+1)*16<=_;omega,?_⟩
    intro A3 c3 p3 _ _
    refine ⟨subPerm [2],?_⟩
    intro β w' hs
    exact hs.fin [1] ⟨A3,c3,by rw [hil];rfl,by omega,by show _=[rowF z_ag 1 (.slice A3 (insT l i x).length c3) (insT l i x).length (strs (insT l i x))];rw [hil];rfl⟩
   ·intro b1
    refine ⟨subPerm [2],?_⟩
    refine ⟨1,0,i,[],(strs l).take i,(strs l).take i,rfl,fun β w' hs=>hA1 w' (hs.get 2 rfl),fun u hu=>z_cU l u (List.mem_of_mem_take hu),Nat.zero_add _,rfl,by omega,by show i*16<=_;omega,?_⟩
    intro A1 c1 p1 _ _
    refine ⟨subPerm [2],?_⟩
    refine ⟨1,i,i+1,(strs l).take i,[.string x],(strs l).take i++[.string x],rfl,fun β w' hs=>z_an (hs.get 0 rfl),(fun u hu=>by obtain rfl:=List.mem_singleton.1 hu;rfl),rfl,rfl,by omega,by show (i+1)*16<=_;omega,?_⟩
    intro A2 c2 p2 _ _
    refine ⟨subPerm [2],?_⟩
    refine ⟨1,i+1,l.length+1,(strs l).take i++[.string x],(strs l).drop i,strs (insT l i x),rfl,fun β w' hs=>hA2 w' (hs.get 2 rfl),fun u hu=>z_cU l u (List.mem_of_mem_drop hu),by omega,by rw [z_im];simp,by omega,by show (l.length+1)*16<=_;omega,?_⟩
    intro A3 c3 p3 _ _
    refine ⟨subPerm [2],?_⟩
    intro β w' hs
    exact hs.fin [1] ⟨A3,c3,by rw [hil];rfl,by omega,by show _=[rowF z_ag 1 (.slice A3 (insT l i x).length c3) (insT l i x).length (strs (insT l i x))];rw [hil];rfl⟩
  ·intro b1
   refine ⟨subPerm [1],?_⟩
   intro b0
   refine ⟨subPerm [2],?_⟩
   refine ⟨0,0,i,[],(strs l).take i,(strs l).take i,rfl,fun β w' hs=>hA1 w' (hs.get 2 rfl),fun u hu=>z_cU l u (List.mem_of_mem_take hu),Nat.zero_add _,rfl,by omega,by show i*16<=_;omega,?_⟩
   intro A1 c1 p1 _ _
   refine ⟨subPerm [2],?_⟩
   refine ⟨0,i,i+1,(strs l).take i,[.string x],(strs l).take i++[.string x],rfl,fun β w' hs=>z_an (hs.get 1 rfl),(fun u hu=>by obtain rfl:=List.mem_singleton.1 hu;rfl),rfl,rfl,by omega,by show (i+1)*16<=_;omega,?_⟩
   intro A2 c2 p2 _ _
   refine ⟨subPerm [2],?_⟩
   refine ⟨0,i+1,l.length+1,(strs l).take i++[.string x],(strs l).drop i,strs (insT l i x),rfl,fun β w' hs=>hA2 w' (hs.get 2 rfl),fun u hu=>z_cU l u (List.mem_of_mem_drop hu),by omega,by rw [z_im];simp,by omega,by show (l.length+1)*16<=_;omega,?_⟩
   intro A3 c3 p3 _ _
   refine ⟨subPerm [2],?_⟩
   intro β w' hs
   exact hs.fin [0] ⟨A3,c3,by rw [hil];rfl,by omega,by show _=[rowF z_ag 1 (.slice A3 (insT l i x).length c3) (insT l i x).length (strs (insT l i x))];rw [hil];rfl⟩
 refine z_ai 0 (fun i:Nat=>[(0,.c (.v (.slice A l.length c))),(1,.c (.v (.string x))),(5,.c (.v (.int .i64 (i:Int))))]) (fun _=>[]) (fun _=>[oldF w])
  (fun i=>i<=l.length/\ ∀k y,k<i->l[k]?=some y->tlt y x) (fun i=>l.length - i) 0 ⟨Nat.zero_le _,fun k y h=>absurd h (Nat.not_lt_zero _)⟩ (Ent.same ⟨rfl,rfl,rfl,trivial⟩ rfl) g ?_
 rintro i ⟨hi,hpre⟩
 refine BIf.dec (fun hlt=>?_) (fun hge=>?_)
 ·have hlt0:(i:Int)<l.length:=hlt
  obtain ⟨y,hy,hym⟩:=at_lt (show i<l.length by omega)
  obtain ⟨ad,hA,_⟩:=hr.2 (by omega)
  refine ⟨ad,i,hA,rfl,by omega,.string y,fun β w' hs=>Rd.cell1 (by have h:=Rd.old hr (hs.get 0 rfl);rw [hA] at h;exact h) (by simp [strs,hy]),?_⟩
  obtain ⟨b,hb⟩: ∃b,Op.bytesLess y.toList x.toList=b:=⟨_,rfl⟩
  have hb2:=hb
  rw [z_gm] at hb2
  conv=>whnf
  rw [hb]
  cases b with
  | true=>
   have hyx:=of_decide_eq_true hb2
   refine ⟨((i+1:Nat):Int),by rw [wrap_i64 (by omega) (by omega)];rfl,?_⟩
   refine ⟨i+1,⟨by omega,fun k z hk hz=>?_⟩,by omega,Ent.same ⟨rfl,rfl,rfl,trivial⟩ rfl⟩
   rcases Nat.lt_or_ge k i with h | h
   ·exact hpre k z h hz
   ·obtain rfl:k=i:=by omega
    rw [hy] at hz
    obtain rfl:=Option.some.inj hz
    exact hyx
  | false=>
   have hyx:=of_decide_eq_false hb2
   refine EntX.of i ⟨hi,z_qH hi hpre fun k z hk hz q=>?_⟩ (Ent.same ⟨rfl,rfl,rfl,trivial⟩ rfl)
   rcases Nat.lt_or_ge i k with h | h
   ·exact hyx (z_bv (z_l0 hs h hy hz) q)
   ·obtain rfl:k=i:=by omega
    rw [hy] at hz
    obtain rfl:=Option.some.inj hz
    exact hyx q
 ·have hge0: ¬(i:Int)<l.length:=hge
  refine EntX.of i ⟨hi,z_qH hi hpre fun k z hk hz _=>?_⟩ (Ent.same ⟨rfl,rfl,rfl,trivial⟩ rfl)
  have:=(List.getElem?_eq_some_iff.1 hz).1
  omega
def wout (l:List ByteArray) (x:ByteArray):List ByteArray:=l.filter fun y=>!decide (y=x)
structure WoJ where
 i:Nat
 A:Option Addr
 c:Nat
theorem z_p2 (w:World) (A0:Option Addr) (l:List ByteArray) (c0:Nat) (x:ByteArray) (hr:Rd 1 A0 l.length (strs l) w) (hn:l.length<=1000000):
  Con Tryz.prog z_cH #[.slice A0 l.length c0,.string x] w [] fun v Fs=> ∃A' c',v= .slice A' (wout l x).length c'/\(wout l x).length<=c'/\Fs=[srowF A' (wout l x) c']:=by
 have g:=z_fr w (Un [])
 have hml:=maxLen_eq
 refine z_ac (cx:=z_cf w (Un [])) g z_g8 rfl rfl (β:=Va.z) [.c (.v (.slice A0 l.length c0)),.c (.v (.string x))] 0 [] [oldF w] rfl rfl (z_ay rfl) ?_
 obtain ⟨out,hout⟩: ∃out:Nat->List ByteArray,∀i,out i=wout (l.take i) x:=⟨fun i=>_,fun i=>rfl⟩
 have hol: ∀i,(out i).length<=1000000:=fun i=>by
  rw [hout]
  exact Nat.le_trans (List.length_filter_le _ _) (by rw [List.length_take];omega)
 have h00:out 0=[]:=by rw [hout];rfl
 refine z_ai (ι:=WoJ) 0 (fun j=>[(1,.c (.v (.string x))),(5,.c (.v (.slice j.A (out j.i).length j.c))),(8,.c (.v (.slice A0 l.length c0))),(9,.c (.v (.int .i64 (l.length:Int)))),(10,.c (.v (.int .i64 (j.i:Int))))]) (fun _=>[]) (fun j=>[srowF j.A (out j.i) j.c,oldF w])
  (fun j=>j.i<=l.length/\(out j.i).length<=j.c) (fun j=>l.length - j.i) ⟨0,none,0⟩ ⟨Nat.zero_le _,by rw [h00];exact Nat.le_refl _⟩ (Ent.mk' ⟨rfl,by show some (SV.c (.v (.slice none 0 0)))=some (SV.c (.v (.slice none (out 0).length 0)));rw [h00];rfl,rfl,rfl,rfl,trivial⟩ rfl (fun β w' hs=>by
   have h:=hs.nilRow z_ag 1
   simp only [h00]
   exact h)) g ?_
 rintro ⟨i,A,c⟩ ⟨hi,hc⟩
 simp only at hi hc
 refine BIf.dec (fun hlt=>?_) (fun hge=>?_)
 ·have hlt0:(i:Int)<l.length:=hlt
  obtain ⟨y,hy,hym⟩:=at_lt (show i<l.length by omega)
  obtain ⟨ad,hA,_⟩:=hr.2 (by omega)
  refine ⟨ad,i,hA,rfl,by omega,.string y,fun β w' hs=>Rd.cell1 (by have h:=Rd.old hr (hs.get 1 rfl);rw [hA] at h;exact h) (by simp [strs,hy]),?_⟩
  have hnx:out (i+1)=out i++(if y=x then [] else [y]):=by
   rw [hout,hout]
   unfold wout
   rw [List.take_add_one,hy,List.filter_append]
   by_cases q:y=x<;>simp [q]
  refine BIf.not (BIf.dec (fun heq=>?_) (fun hne=>?_))
  ·have heq0:y=x:=heq
   rw [if_pos heq0,List.append_nil] at hnx
   refine ⟨((i+1:Nat):Int),by rw [wrap_i64 (by omega) (by omega)];rfl,?_⟩
   refine ⟨⟨i+1,A,c⟩,⟨by show i+1<=l.length;omega,by show (out (i+1)).length<=c;rw [hnx];exact hc⟩,by show l.length - (i+1)<l.length - i;omega,?_⟩
   simp only [hnx]
   exact Ent.same ⟨rfl,rfl,rfl,rfl,rfl,trivial⟩ rfl
  ·have hne0: ¬y=x:=hne
   rw [if_neg hne0] at hnx
   have hl1:(out (i+1)).length=(out i).length+1:=by rw [hnx,List.length_append];rfl
   have hol1:=hol (i+1)
   intro b2
   refine ⟨1,(out i).length,(out (i+1)).length,strs (out i),[.string y],strs (out (i+1)),rfl,fun β w hs=>z_an (hs.get 0 rfl),(fun u hu=>by obtain rfl:=List.mem_singleton.1 hu;rfl),by rw [hl1],by rw [hnx];simp [strs],by omega,by show (out (i+1)).length*16<=_;omega,?_⟩
   intro A' c' q1 q2 q3
   refine ⟨((i+1:Nat):Int),by rw [wrap_i64 (by omega) (by omega)];rfl,?_⟩
   exact ⟨⟨i+1,A',c'⟩,⟨by show i+1<=l.length;omega,q1⟩,by show l.length - (i+1)<l.length - i;omega,Ent.mk' ⟨rfl,rfl,rfl,rfl,rfl,trivial⟩ rfl (fun β w' hs=>(hs.perm [1,2]).lower)⟩
 ·have hge0: ¬(i:Int)<l.length:=hge
  have hfin:out i=wout l x:=by rw [hout,List.take_of_length_le (by omega)]
  rw [hfin] at hc ⊢
  intro β w' hs
  exact hs.fin [0] ⟨A,c,rfl,hc,rfl⟩
def lead (b:UInt8):Option (Nat×Nat):=
 if 194<=b.toNat/\b.toNat<=223 then some (2,b.toNat - 192)
 else if 224<=b.toNat/\b.toNat<=239 then some (3,b.toNat - 224)
 else if 240<=b.toNat/\b.toNat<=244 then some (4,b.toNat - 240)
 else none
theorem z_gA: ∀ {l:List UInt8} {r q:Nat},Nam.tailR l r=some q->r*64^l.length<=q/\q<(r+1)*64^l.length
 | [],r,q,h=>by
  obtain rfl:=Option.some.inj h
  simp
 | b::t,r,q,h=>by
  simp only [Nam.tailR] at h
  split at h
  ·obtain ⟨h1,h2⟩:=z_gA h
   have hb:b.toNat%64<64:=Nat.mod_lt _ (by decide)
   rw [List.length_cons,Nat.pow_succ]
   constructor
   ·have:r*(64^t.length*64)=(r*64)*64^t.length:=by rw [Nat.mul_comm (64^t.length),Nat.mul_assoc]
    rw [this]
    exact Nat.le_trans (Nat.mul_le_mul_right _ (by omega)) h1
   ·have:(r+1)*(64^t.length*64)=((r+1)*64)*64^t.length:=by rw [Nat.mul_comm (64^t.length),Nat.mul_assoc]
    rw [this]
    exact Nat.lt_of_lt_of_le h2 (Nat.mul_le_mul_right _ (by omega))
  ·cases h
theorem z_nL (b:UInt8):(b.toNat<128->b&&&0x80=0/\(b&&& ~~~0x80).toNat=b.toNat)/\(192<=b.toNat/\b.toNat<=223->b&&&0xe0=0xc0/\(b&&& ~~~0xe0).toNat=b.toNat - 192)/\(224<=b.toNat/\b.toNat<=239->b&&&0xf0=0xe0/\(b&&& ~~~0xf0).toNat=b.toNat - 224)/\(240<=b.toNat/\b.toNat<=247->b&&&0xf8=0xf0/\(b&&& ~~~0xf8).toNat=b.toNat - 240)/\((128<=b.toNat/\b.toNat<=191)\/248<=b.toNat-> ¬b&&&0x80=0/\ ¬b&&&0xe0=0xc0/\ ¬b&&&0xf0=0xe0/\ ¬b&&&0xf8=0xf0):=by
 refine Nam.u8_all (p:=fun b=>(b.toNat<128->b&&&0x80=0/\(b&&& ~~~0x80).toNat=b.toNat)/\(192<=b.toNat/\b.toNat<=223->b&&&0xe0=0xc0/\(b&&& ~~~0xe0).toNat=b.toNat - 192)/\(224<=b.toNat/\b.toNat<=239->b&&&0xf0=0xe0/\(b&&& ~~~0xf0).toNat=b.toNat - 224)/\(240<=b.toNat/\b.toNat<=247->b&&&0xf8=0xf0/\(b&&& ~~~0xf8).toNat=b.toNat - 240)/\((128<=b.toNat/\b.toNat<=191)\/248<=b.toNat-> ¬b&&&0x80=0/\ ¬b&&&0xe0=0xc0/\ ¬b&&&0xf0=0xe0/\ ¬b&&&0xf8=0xf0)) ?_ b
 decide+kernel
theorem z_j0 {b:UInt8} {t:List UInt8} {f:Nam.Fm} {r0:Nat} (hf:f∈Nam.fms) (hb:b&&&f.mask=f.lead) (hr:(b&&& ~~~f.mask).toNat=r0):
  Nam.decL (b::t)=if (b::t).length<f.size then (none,1) else match Nam.tailR (t.take (f.size - 1)) r0 with
   | some r=>if f.least<=r/\Nam.sign r=true then (some r,f.size) else (none,1)
   | none=>(none,1):=by
 unfold Nam.decL
 rw [Nam.find_form hf hb]
 by_cases hl:f.size<=(b::t).length
 ·rw [if_pos hl,if_neg (by omega)]
  simp only [Nam.tryF,hr]
  cases Nam.tailR (t.take (f.size - 1)) r0 with
  | none=>rfl
  | some r=>
   simp only
   by_cases h:f.least<=r/\Nam.sign r=true
   ·rw [if_pos h,if_pos h]
   ·rw [if_neg h,if_neg h]
 ·rw [if_neg hl,if_pos (by omega)]
theorem z_ri {b:UInt8} {t:List UInt8} (h:b.toNat<128):Nam.decL (b::t)=(some b.toNat,1):=by
 obtain ⟨h1,h2⟩:=(z_nL b).1 h
 rw [z_j0 (f:=⟨1,0x80,0,0⟩) (by simp [Nam.fms]) h1 h2,if_neg (by simp)]
 show (if 0<=b.toNat/\Nam.sign b.toNat=true then (some b.toNat,1) else (none,1))=_
 rw [if_pos ⟨Nat.zero_le _,by simp only [Nam.sign,Bool.and_eq_true,Bool.or_eq_true,decide_eq_true_eq];omega⟩]
def badR (n r:Nat):Prop:=(n=3/\r<2048)\/(n=4/\r<65536)\/(55296<=r/\r<=57343)\/1114111<r
theorem sign_iff {r:Nat}:Nam.sign r=true↔r<=1114111/\(r<55296\/57343<r):=by
 simp only [Nam.sign,Bool.and_eq_true,Bool.or_eq_true,decide_eq_true_eq]
open Classical in
theorem z_s3 {b:UInt8} {t:List UInt8} {n r0:Nat} (h:lead b=some (n,r0)):2<=n/\n<=4/\r0<32/\
  Nam.decL (b::t)=if (b::t).length<n then (none,1) else match Nam.tailR (t.take (n - 1)) r0 with
   | some r=>if badR n r then (none,1) else (some r,n)
   | none=>(none,1):=by
 obtain ⟨_,k2,k3,k4,_⟩:=z_nL b
 have hlt:=b.toNat_lt
 have fin_: ∀ {f:Nam.Fm},f∈Nam.fms->f.size=n->b&&&f.mask=f.lead->(b&&& ~~~f.mask).toNat=r0->(∀r,Nam.tailR (t.take (n - 1)) r0=some r->n<=(b::t).length->((f.least<=r/\Nam.sign r=true)↔ ¬badR n r))->
   Nam.decL (b::t)=if (b::t).length<n then (none,1) else match Nam.tailR (t.take (n - 1)) r0 with
    | some r=>if badR n r then (none,1) else (some r,n)
    | none=>(none,1):=by
  intro f hf hn h1 h2 hq
  subst hn
  rw [z_j0 hf h1 h2]
  by_cases hl:(b::t).length<f.size
  ·rw [if_pos hl,if_pos hl]
  ·rw [if_neg hl,if_neg hl]
   cases hr:Nam.tailR (t.take (f.size - 1)) r0 with
   | none=>rfl
   | some r=>
    simp only
    have:=hq r hr (by omega)
    by_cases hb:badR f.size r
    ·rw [if_pos hb,if_neg (fun q=>this.1 q hb)]
    ·rw [if_neg hb,if_pos (this.2 hb)]
 unfold lead at h
 split at h
 ·rename_i hh
  obtain ⟨rfl,rfl⟩:=Prod.mk.inj (Option.some.inj h)
  obtain ⟨h1,h2⟩:=k2 (by omega)
  refine ⟨by decide,by decide,by omega,fin_ (f:=⟨2,0xe0,0xc0,0x80⟩) (by simp [Nam.fms]) rfl h1 h2 (fun r hr hl=>?_)⟩
  have hb:=z_gA hr
  have hl1:(t.take 1).length=1:=by rw [List.length_take];simp only [List.length_cons] at hl;omega
  rw [hl1] at hb
  rw [sign_iff]
  show (128<=r/\_)↔_
  unfold badR
  omega
 ·split at h
  ·rename_i hh
   obtain ⟨rfl,rfl⟩:=Prod.mk.inj (Option.some.inj h)
   obtain ⟨h1,h2⟩:=k3 (by omega)
   refine ⟨by decide,by decide,by omega,fin_ (f:=⟨3,0xf0,0xe0,0x800⟩) (by simp [Nam.fms]) rfl h1 h2 (fun r hr hl=>?_)⟩
   rw [sign_iff]
   show (2048<=r/\_)↔_
   unfold badR
   omega
  ·split at h
   ·rename_i hh
    obtain ⟨rfl,rfl⟩:=Prod.mk.inj (Option.some.inj h)
    obtain ⟨h1,h2⟩:=k4 (by omega)
    refine ⟨by decide,by decide,by omega,fin_ (f:=⟨4,0xf8,0xf0,0x10000⟩) (by simp [Nam.fms]) rfl h1 h2 (fun r hr hl=>?_)⟩
    rw [sign_iff]
    show (65536<=r/\_)↔_
    unfold badR
    omega
   ·cases h
theorem z_rK {b:UInt8} {t:List UInt8} (h0: ¬b.toNat<128) (h:lead b=none):Nam.decL (b::t)=(none,1):=by
 obtain ⟨_,k2,k3,k4,k5⟩:=z_nL b
 have hlt:=b.toNat_lt
 unfold lead at h
 split at h
 ·cases h
 ·split at h
  ·cases h
  ·split at h
   ·cases h
   ·rename_i a1 a2 a3
    by_cases c1:b.toNat=192\/b.toNat=193
    ·obtain ⟨h1,h2⟩:=k2 (by omega)
     rw [z_j0 (f:=⟨2,0xe0,0xc0,0x80⟩) (by simp [Nam.fms]) h1 h2]
     by_cases hl:(b::t).length<2
     ·rw [if_pos hl]
     ·rw [if_neg hl]
      show (match Nam.tailR (t.take 1) (b.toNat - 192) with | some r=>if 128<=r/\Nam.sign r=true then (some r,2) else (none,1) | none=>(none,1))=_
      cases hr:Nam.tailR (t.take 1) (b.toNat - 192) with
      | none=>rfl
      | some r=>
       have hb:=z_gA hr
       have hl1:(t.take 1).length=1:=by rw [List.length_take];simp only [List.length_cons] at hl;omega
       rw [hl1] at hb
       simp only
       rw [if_neg (by omega)]
    ·by_cases c2:245<=b.toNat/\b.toNat<=247
     ·obtain ⟨h1,h2⟩:=k4 (by omega)
      rw [z_j0 (f:=⟨4,0xf8,0xf0,0x10000⟩) (by simp [Nam.fms]) h1 h2]
      by_cases hl:(b::t).length<4
      ·rw [if_pos hl]
      ·rw [if_neg hl]
       show (match Nam.tailR (t.take 3) (b.toNat - 240) with | some r=>if 65536<=r/\Nam.sign r=true then (some r,4) else (none,1) | none=>(none,1))=_
       cases hr:Nam.tailR (t.take 3) (b.toNat - 240) with
       | none=>rfl
       | some r=>
        have hb:=z_gA hr
        have hl1:(t.take 3).length=3:=by rw [List.length_take];simp only [List.length_cons] at hl;omega
        rw [hl1] at hb
        simp only
        rw [if_neg (by rw [sign_iff];omega)]
     ·obtain ⟨p1,p2,p3,p4⟩:=k5 (by omega)
      unfold Nam.decL
      rw [Nam.find_none (fun f hf=>by
       simp only [Nam.fms,List.mem_cons,List.not_mem_nil,or_false] at hf
       rcases hf with rfl | rfl | rfl | rfl
       ·exact p1
       ·exact p2
       ·exact p3
       ·exact p4)]
theorem z_v3 (w:World) (z:Int):Pu Tryz.prog z_dC #[.int .i64 z] w (.bool (rblank z)):=by
 refine z_ac (cx:=z_dn w (Un [])) (z_ga w (Un [])) z_iV rfl rfl (β:=Va.z) [.c (.v (.int .i64 z))] 0 [] [] rfl rfl (Sat.start rfl) ?_
 repeat' refine BIf.dec (fun h=>?_) (fun h=>?_)
 all_goals
  intro β w' hs
  refine hs.fin [] ⟨?_,rfl⟩
  show Value.bool _=Value.bool _
  congr 1
  unfold rblank
  rw [Bool.eq_iff_iff]
  simp only [decide_eq_true_eq,Bool.false_eq_true,true_iff,false_iff]
  omega
theorem z_xw (w:World) (z:Int):Pu Tryz.prog z_ey #[.int .i64 z] w (.bool (rgoes z)):=by
 refine z_ac (cx:=z_dO w (Un [])) (z_g9 w (Un [])) z_js rfl rfl (β:=Va.z) [.c (.v (.int .i64 z))] 0 [] [] rfl rfl (Sat.start rfl) ?_
 repeat' refine BIf.dec (fun h=>?_) (fun h=>?_)
 all_goals
  intro β w' hs
  refine hs.fin [] ⟨?_,rfl⟩
  show Value.bool _=Value.bool _
  congr 1
  unfold rgoes
  rw [Bool.eq_iff_iff]
  simp only [decide_eq_true_eq,Bool.false_eq_true,true_iff,false_iff]
  omega
theorem z_w4 (w:World) (z:Int):Pu Tryz.prog z_eg #[.int .u8 z] w (.bool (decide (128<=z/\z<=191))):=by
 refine z_ac (cx:=z_dQ w (Un [])) (z_hn w (Un [])) z_jo rfl rfl (β:=Va.z) [.c (.v (.int .u8 z))] 0 [] [] rfl rfl (Sat.start rfl) ?_
 repeat' refine BIf.dec (fun h=>?_) (fun h=>?_)
 all_goals
  intro β w' hs
  refine hs.fin [] ⟨?_,rfl⟩
  show Value.bool _=Value.bool _
  congr 1
  rw [Bool.eq_iff_iff]
  simp only [decide_eq_true_eq,Bool.false_eq_true,true_iff,false_iff]
  omega
set_option maxHeartbeats 2000000 in
theorem z_w8 (w:World) (z:Int) (h0:0<=z):Pu Tryz.prog z_ei #[.int .i64 z] w (.bool (rbars z)):=by
 refine z_ac (cx:=z_dI w (Un [])) (z_hk w (Un [])) z_jC rfl rfl (β:=Va.z) [.c (.v (.int .i64 z))] 0 [] [] rfl rfl (Sat.start rfl) ?_
 obtain ⟨m,hm⟩: ∃m,z.tmod 65536=m:=⟨_,rfl⟩
 have hm2:z%65536=m:=by rw [<-hm,Int.tmod_eq_emod_of_nonneg h0]
 repeat' refine BIf.dec (fun h=>?_) (fun h=>?_)
 all_goals
  try refine ⟨by decide,m,hm,?_⟩
  intro β w' hs
  refine hs.fin [] ⟨?_,rfl⟩
  show Value.bool _=Value.bool _
  congr 1
  unfold rbars
  rw [Bool.eq_iff_iff]
  simp only [decide_eq_true_eq,Bool.false_eq_true,true_iff,false_iff]
  omega
set_option maxHeartbeats 2000000 in
theorem z_vp (w:World) (s:ByteArray) (b0:UInt8) (t:List UInt8) (hs0:s.data.toList=b0::t) (hsz:s.size<=maxLen):
    Pu Tryz.prog z_dR #[.string s] w (.tuple #[.int .i64 (runeI (Nam.decL (b0::t)).1),.int .i64 ((Nam.decL (b0::t)).2:Int)]):=by
  have g:=z_f5 w (Un [])
  have hlen:s.size=(b0::t).length:=by rw [<-hs0];rfl
  have hml:=maxLen_eq
  refine z_d7 (cx:=z_br w (Un [])) g z_i3 rfl rfl (β:=Va.z) [.c (.v (.string s))] 0 [] [] rfl rfl (Sat.start rfl) ?_
  have fin: ∀(a b:Int),runeI (Nam.decL (b0::t)).1=a->((Nam.decL (b0::t)).2:Int)=b-> ∀ {n:Nat} {H:List Bk} {F:List Fact} (β:Va) (w':World),Sat (z_br w (Un [])) β n H F w'->Fin w [] (fun u Fs=>u= .tuple #[.int .i64 (runeI (Nam.decL (b0::t)).1),.int .i64 ((Nam.decL (b0::t)).2:Int)]/\Fs=[]) (.tuple #[.int .i64 a,.int .i64 b]) w':=by
    intro a b h1 h2 n H F β w' hs
    rw [h1,h2]
    exact (hs.keepB (List.nil_sublist _)).fin [] ⟨rfl,rfl⟩
  obtain ⟨c,hc⟩: ∃c,b0.toNat=c:=⟨_,rfl⟩
  have hc256:c<256:=by rw [<-hc];exact b0.toNat_lt
  refine z_ao g ?_
  refine z_ao g ?_
  refine ⟨0,b0,rfl,by rw [hs0];rfl,?_⟩
  refine ⟨(c:Int),by rw [hc];exact wrap_i64 (by omega) (by omega),?_⟩
  refine z_ao g ?_
  refine z_ce (ι:=Nat×Nat×Int×Int) g (fun i=>lead b0=some (i.1,i.2.1)/\(i.1:Int)=i.2.2.1/\(i.2.1:Int)=i.2.2.2) 0 (fun i=>[(0,.c (.v (.string s))),(5,.c (.v (.int .i64 i.2.2.1))),(6,.c (.v (.int .i64 i.2.2.2)))]) (fun _=>[]) (fun _=>[]) ?_ ?_
  · rintro ⟨n,r0,y,z0⟩ ⟨hld,hy,hz0⟩
    simp only at hld hy hz0
    obtain ⟨hn2,hn4,hr0,hdec⟩:=z_s3 (t:=t) hld
    simp only
    refine z_eT g ?_
    refine BIf.dec (fun hsh=>?_) (fun hsh=>?_)
    · have hsh0:(s.size:Int)<y:=hsh
      rw [if_pos (by omega)] at hdec
      exact fun β w' hs=>fin (-1) 1 (by rw [hdec];rfl) (by rw [hdec];rfl) β w' hs
    · have hsh0: ¬(s.size:Int)<y:=hsh
      rw [if_neg (by omega)] at hdec
      have hfl:n<=(b0::t).length:=by omega
      have hr256:r0<256:=by omega
      refine z_ai (ι:=Nat×Nat×Int) 0 (fun q=>[(0,.c (.v (.string s))),(5,.c (.v (.int .i64 y))),(6,.c (.v (.int .i64 q.2.2))),(7,.c (.v (.int .i64 (q.1:Int))))]) (fun _=>[]) (fun _=>[])
        (fun q=>1<=q.1/\q.1<=n/\Nam.tailR (t.take (q.1 - 1)) r0=some q.2.1/\q.2.1<256*64^(q.1 - 1)/\(q.2.1:Int)=q.2.2) (fun q=>n - q.1) (1,r0,z0) ⟨Nat.le_refl _,by omega,rfl,by simpa using hr256,hz0⟩ (Ent.same ⟨rfl,rfl,rfl,rfl,trivial⟩ rfl) g ?_
      rintro ⟨k,r,z⟩ ⟨hk1,hk2,htl,hrb,hz⟩
      simp only at hk1 hk2 htl hrb hz
      simp only
      refine BIf.dec (fun hks=>?_) (fun hks=>?_)
      · have hks1:(k:Int)<y:=hks
        have hkt:k - 1<t.length:=by simp only [List.length_cons] at hfl;omega
        obtain ⟨x,hx,hxm⟩:=at_lt hkt
        have hcs:s.data.toList[k]?=some x:=by
          rw [hs0]
          obtain ⟨k',rfl⟩: ∃k',k=k'+1:=⟨k - 1,by omega⟩
          simpa using hx
        have hsn:t.take k=t.take (k - 1)++[x]:=by
          have:=List.take_add_one (l:=t) (i:=k - 1)
          rw [hx,Nat.sub_add_cancel hk1] at this
          exact this
        have hrb2:r<33554432:=by
          have:64^(k - 1)<=64^2:=Nat.pow_le_pow_right (by decide) (by omega)
          omega
        obtain ⟨m,hm⟩: ∃m,x.toNat=m:=⟨_,rfl⟩
        have hm256:m<256:=by rw [<-hm];exact x.toNat_lt
        refine ⟨k,x,rfl,hcs,?_⟩
        obtain ⟨bt,hbt⟩: ∃bt,decide (128<=(m:Int)/\(m:Int)<=191)=bt:=⟨_,rfl⟩
        refine z_ae (v:= .bool bt) (fun β w' hs=>by rw [<-hbt,<-hm];exact z_w4 w' (x.toNat:Int)) ?_
        cases bt with
        | true=>
          have hct:=of_decide_eq_true hbt
          have hcc:x.toNat/64=2:=by rw [hm];omega
          refine ⟨((r*64:Nat):Int),by rw [<-hz,wrap_i64 (by omega) (by omega)];omega,?_⟩
          refine ⟨k,x,rfl,hcs,?_⟩
          refine ⟨((m%64:Nat):Int),by rw [hm,wrap_u8];omega,?_⟩
          refine ⟨((m%64:Nat):Int),wrap_i64 (by omega) (by omega),?_⟩
          refine ⟨((r*64+m%64:Nat):Int),by rw [wrap_i64 (by omega) (by omega)];omega,?_⟩
          refine ⟨((k+1:Nat):Int),by rw [wrap_i64 (by omega) (by omega)];rfl,?_⟩
          refine ⟨(k+1,r*64+m%64,((r*64+m%64:Nat):Int)),⟨by show 1<=k+1;omega,by show k+1<=n;omega,?_,?_,rfl⟩,by show n - (k+1)<n - k;omega,Ent.same ⟨rfl,rfl,rfl,rfl,trivial⟩ rfl⟩
          · show Nam.tailR (t.take (k+1 - 1)) r0=some (r*64+m%64)
            rw [Nat.add_sub_cancel,hsn,z_k8,htl]
            simp only
            rw [if_pos hcc,hm]
          · show r*64+m%64<256*64^(k+1 - 1)
            obtain ⟨k',rfl⟩: ∃k',k=k'+1:=⟨k - 1,by omega⟩
            simp only [Nat.add_sub_cancel] at hrb ⊢
            rw [Nat.pow_succ]
            omega
        | false=>
          have hct:=of_decide_eq_false hbt
          have hcc: ¬x.toNat/64=2:=fun q=>hct (by rw [hm] at q;omega)
          have hnone:Nam.tailR (t.take (n - 1)) r0=none:=by
            refine Nam.tailR_none ⟨x,?_,hcc⟩
            have h2:x∈t.take k:=by rw [hsn];simp
            exact List.take_subset_take_left t (by omega) h2
          rw [hnone] at hdec
          exact fun β w' hs=>fin (-1) 1 (by rw [hdec];rfl) (by rw [hdec];rfl) β w' hs
      · have hks1: ¬(k:Int)<y:=hks
        obtain rfl:k=n:=by omega
        rw [htl] at hdec
        simp only at hdec
        by_cases hb:badR k r
        · rw [if_pos hb] at hdec
          unfold badR at hb
          repeat' refine BIf.dec (fun h=>?_) (fun h=>?_)
          all_goals first
            | exact fun β w' hs=>fin (-1) 1 (by rw [hdec];rfl) (by rw [hdec];rfl) β w' hs
            | (exfalso;omega)
        · rw [if_neg hb] at hdec
          unfold badR at hb
          repeat' refine BIf.dec (fun h=>?_) (fun h=>?_)
          all_goals first
            | exact fun β w' hs=>fin z y (by rw [hdec];exact hz) (by rw [hdec];exact hy) β w' hs
            | (exfalso;omega)
  · generalize hz:(c:Int)=z
    repeat' refine BIf.dec (fun h=>?_) (fun h=>?_)
    all_goals first
      | (exfalso;omega)
      | exact fun β w' hs=>fin z 1 (by rw [z_ri (by omega),<-hz,<-hc];rfl) (by rw [z_ri (by omega)];rfl) β w' hs
      | exact fun β w' hs=>fin (-1) 1 (by rw [z_rK (by omega) (by unfold lead;rw [hc,if_neg (by omega),if_neg (by omega),if_neg (by omega)])];rfl) (by rw [z_rK (by omega) (by unfold lead;rw [hc,if_neg (by omega),if_neg (by omega),if_neg (by omega)])];rfl) β w' hs
      | (refine ⟨((c - 192:Nat):Int),by rw [wrap_i64 (by omega) (by omega)];omega,?_⟩
         exact EntX.of (2,c - 192,2,((c - 192:Nat):Int)) ⟨by show lead b0=some (2,c - 192);unfold lead;rw [hc,if_pos (by omega)],rfl,rfl⟩ (Ent.mk' ⟨rfl,rfl,rfl,trivial⟩ rfl (fun β w' hs=>hs)))
      | (refine ⟨((c - 224:Nat):Int),by rw [wrap_i64 (by omega) (by omega)];omega,?_⟩
         exact EntX.of (3,c - 224,3,((c - 224:Nat):Int)) ⟨by show lead b0=some (3,c - 224);unfold lead;rw [hc,if_neg (by omega),if_pos (by omega)],rfl,rfl⟩ (Ent.mk' ⟨rfl,rfl,rfl,trivial⟩ rfl (fun β w' hs=>hs)))
      | (refine ⟨((c - 240:Nat):Int),by rw [wrap_i64 (by omega) (by omega)];omega,?_⟩
         exact EntX.of (4,c - 240,4,((c - 240:Nat):Int)) ⟨by show lead b0=some (4,c - 240);unfold lead;rw [hc,if_neg (by omega),if_neg (by omega),if_pos (by omega)],rfl,rfl⟩ (Ent.mk' ⟨rfl,rfl,rfl,trivial⟩ rfl (fun β w' hs=>hs)))
def signV (x:Rn):List Value:=[.int .i64 (x.1:Int),.int .i64 x.2]
def signsV (l:List Rn):List Value:=l.flatMap signV
abbrev sgnF (A:Option Addr) (l:List Rn) (c:Nat):Fact:=rowF z_iZ 2 (.slice A l.length c) l.length (signsV l)
theorem z_qE (l:List Rn) (x:Rn):signsV (l++[x])=signsV l++signV x:=by simp [signsV]
theorem z_uu (x:Rn): ∀u∈signV x,u.oneCell'=true:=by
 intro u hu
 simp only [signV,List.mem_cons,List.not_mem_nil,or_false] at hu
 rcases hu with rfl | rfl<;>rfl
theorem z_va (w:World) (s:ByteArray) (hl:s.size<=1000000):
  Con Tryz.prog z_d1 #[.string s] w [] fun v Fs=> ∃A c,v= .slice A (runesAt s.data.toList 0).length c/\(runesAt s.data.toList 0).length<=c/\(0<(runesAt s.data.toList 0).length-> ∃ad,A=some ad)/\Fs=[sgnF A (runesAt s.data.toList 0) c]:=by
 have g:=z_gr w (Un [])
 have hlen:s.data.toList.length=s.size:=rfl
 have hml:=maxLen_eq
 refine z_ac (cx:=z_cZ w (Un [])) g z_i7 rfl rfl (β:=Va.z) [.c (.v (.string s))] 0 [] [sgnF none [] 0] rfl rfl ((Sat.start rfl).nilRow _ _) ?_
 refine z_ai (ι:=List Rn×Nat×Option Addr×Nat) 0 (fun i=>[(0,.c (.v (.string s))),(3,.c (.v (.slice i.2.2.1 i.1.length i.2.2.2))),(4,.c (.v (.int .i64 (i.2.1:Int))))]) (fun _=>[]) (fun i=>[sgnF i.2.2.1 i.1 i.2.2.2])
  (fun i=>runesAt s.data.toList 0=i.1++runesAt s.data.toList i.2.1/\i.2.1<=s.size/\i.1.length<=i.2.1/\i.1.length<=i.2.2.2) (fun i=>s.size - i.2.1) ([],0,none,0) ⟨rfl,Nat.zero_le _,Nat.zero_le _,Nat.zero_le _⟩ (Ent.same ⟨rfl,rfl,rfl,trivial⟩ rfl) g ?_
 rintro ⟨pre,i,A1,c1⟩ ⟨hsc,hi,hgi,hgc⟩
 simp only at hsc hi hgi hgc
 simp only
 refine BIf.dec (fun hlt=>?_) (fun hge=>?_)
 ·have hlt0:(i:Int)<s.size:=hlt
  have hil:i<s.data.toList.length:=by omega
  refine ⟨s.size,i,rfl,rfl,Nat.le_refl _,hi,?_⟩
  have hd:=Nam.decL_size (z_ig hil)
  rw [List.length_drop] at hd
  rw [z_e5 hil] at hsc
  obtain ⟨b0,t,hbt⟩: ∃b0 t,s.data.toList.drop i=b0::t:=by
   cases h:s.data.toList.drop i with
   | nil=>exact absurd h (z_ig hil)
   | cons b t=>exact ⟨b,t,rfl⟩
  obtain ⟨o,n,hon⟩: ∃o n,Nam.decL (s.data.toList.drop i)=(o,n):=⟨_,_,rfl⟩
  rw [hon] at hd hsc
  simp only at hd hsc
  obtain ⟨z,hz⟩: ∃z,runeI o=z:=⟨_,rfl⟩
  rw [hz] at hsc
  refine z_ae (v:= .tuple #[.int .i64 z,.int .i64 (n:Int)]) (fun β w' hs=>by
   have h:=z_vp w' (s.extract i s.size) b0 t (by rw [z_lL,hbt]) (by rw [ByteArray.size_extract];omega)
   rw [<-hbt,hon,hz] at h
   exact h) ?_
  intro b1
  refine ⟨1,pre.length,pre.length+1,signsV pre,signV (i,z),signsV (pre++[(i,z)]),rfl,fun β w hs=>z_an (hs.get 0 rfl),z_uu _,rfl,(z_qE _ _).symm,by rw [maxLen_eq];omega,by show (pre.length+1)*16<=_;omega,?_⟩
  intro A' c' q1 q2 _
  refine ⟨((i+n:Nat):Int),by rw [wrap_i64 (by omega) (by omega)];rfl,?_⟩
  have hle:(pre++[(i,z)]:List Rn).length=pre.length+1:=by simp
  refine ⟨(pre++[(i,z)],i+n,A',c'),⟨by show runesAt s.data.toList 0=pre++[(i,z)]++runesAt s.data.toList (i+n);rw [hsc];simp,by show i+n<=s.size;omega,by show (pre++[(i,z)]:List Rn).length<=i+n;omega,by show (pre++[(i,z)]:List Rn).length<=c';omega⟩,by show s.size - (i+n)<s.size - i;omega,?_⟩
  simp only [sgnF,hle]
  exact Ent.mk' ⟨rfl,rfl,rfl,trivial⟩ rfl (fun β w' hs=>hs.weaken (List.Sublist.refl _) (List.sublist_cons_self _ _))
 ·have hge0: ¬(i:Int)<s.size:=hge
  rw [z_cO (l:=s.data.toList) (i:=i) (by omega),List.append_nil] at hsc
  intro β w' hs
  rw [hsc]
  refine hs.fin [0] ⟨A1,c1,rfl,hgc,fun h=>?_,rfl⟩
  obtain ⟨ad,h1,_⟩:=(z_an (hs.get 0 rfl)).2 (by omega)
  exact ⟨ad,h1⟩
theorem quoN {r:Nat} (k:Nat) (h:r<9223372036854775808):IntKind.i64.wrap ((r:Int).tdiv (k:Int))=((r/k:Nat):Int):=by
 rw [<-Int.ofNat_tdiv]
 have:=Nat.div_le_self r k
 generalize r/k=q at this ⊢
 exact wrap_i64 (by omega) (by omega)
theorem quoZ {r:Nat} {z:Int} (hz:(r:Int)=z) (k:Nat) (h:r<9223372036854775808):IntKind.i64.wrap (z.tdiv (k:Int))=((r/k:Nat):Int):=by rw [<-hz];exact quoN k h
theorem remZ {r:Nat} {z:Int} (hz:(r:Int)=z) (k:Nat):z.tmod (k:Int)=((r%k:Nat):Int):=by rw [<-hz];exact (Int.ofNat_tmod r k).symm
theorem u8Z {r:Nat} {z:Int} (hz:(r:Int)=z):IntKind.u8.wrap z=((UInt8.ofNat r).toNat:Int):=by rw [<-hz];exact z_bZ r
theorem remN (r k:Nat):(r:Int).tmod (k:Int)=((r%k:Nat):Int):=(Int.ofNat_tmod r k).symm
theorem addN {k x:Nat} (h:k+x<9223372036854775808):IntKind.i64.wrap ((k:Int)+(x:Int))=((k+x:Nat):Int):=by
 rw [wrap_i64 (by omega) (by omega)];rfl
theorem z_v0 (w:World) (r:Nat) (z:Int) (hz:(r:Int)=z) (hsg:Nam.sign r=true):
    Con Tryz.prog z_dZ #[.int .i64 z] w [] fun v Fs=> ∃A c,v= .slice A (rbytesL r).length c/\(rbytesL r).length<=c/\c<=maxLen/\Fs=[browF z_ab A (rbytesL r) c]:=by
  have hs2:=sign_iff.1 hsg
  have hml:=maxLen_eq
  obtain ⟨l,hl⟩: ∃l,rbytesL r=l:=⟨_,rfl⟩
  rw [hl]
  refine z_ac (cx:=z_dp w (Un [])) (z_gf w (Un [])) z_i8 rfl rfl (β:=Va.z) [.c (.v (.int .i64 z))] 0 [] [] rfl rfl (Sat.start rfl) ?_
  repeat' refine BIf.dec (fun h=>?_) (fun h=>?_)
  all_goals first
    | (exfalso;omega)
    | (have e:l=[UInt8.ofNat r]:=by rw [<-hl];unfold rbytesL;rw [if_pos (by omega)]
       subst e
       refine ⟨_,u8Z hz,?_⟩
       intro b β w' hs
       exact hs.fin [0] ⟨_,1,rfl,Nat.le_refl 1,by rw [maxLen_eq];decide,rfl⟩)
    | (have e:l=[UInt8.ofNat (192+r/64),UInt8.ofNat (128+r%64)]:=by rw [<-hl];unfold rbytesL;rw [if_neg (by omega),if_pos (by omega)]
       subst e
       refine ⟨by decide,_,quoZ hz 64 (by omega),_,addN (k:=192) (by omega),_,z_bZ _,by decide,_,remZ hz 64,_,addN (k:=128) (by omega),_,z_bZ _,?_⟩
       intro b β w' hs
       exact hs.fin [0] ⟨_,2,rfl,Nat.le_refl 2,by rw [maxLen_eq];decide,rfl⟩)
    | (have e:l=[UInt8.ofNat (224+r/4096),UInt8.ofNat (128+r/64%64),UInt8.ofNat (128+r%64)]:=by rw [<-hl];unfold rbytesL;rw [if_neg (by omega),if_neg (by omega),if_pos (by omega)]
       subst e
       refine ⟨by decide,_,quoZ hz 4096 (by omega),_,addN (k:=224) (by omega),_,z_bZ _,by decide,_,quoZ hz 64 (by omega),by decide,_,remN (r/64) 64,_,addN (k:=128) (by omega),_,z_bZ _,by decide,_,remZ hz 64,_,addN (k:=128) (by omega),_,z_bZ _,?_⟩
       intro b β w' hs
       exact hs.fin [0] ⟨_,3,rfl,Nat.le_refl 3,by rw [maxLen_eq];decide,rfl⟩)
    | (have e:l=[UInt8.ofNat (240+r/262144),UInt8.ofNat (128+r/4096%64),UInt8.ofNat (128+r/64%64),UInt8.ofNat (128+r%64)]:=by rw [<-hl];unfold rbytesL;rw [if_neg (by omega),if_neg (by omega),if_neg (by omega)]
       subst e
       refine ⟨by decide,_,quoZ hz 262144 (by omega),_,addN (k:=240) (by omega),_,z_bZ _,by decide,_,quoZ hz 4096 (by omega),by decide,_,remN (r/4096) 64,_,addN (k:=128) (by omega),_,z_bZ _,by decide,_,quoZ hz 64 (by omega),by decide,_,remN (r/64) 64,_,addN (k:=128) (by omega),_,z_bZ _,by decide,_,remZ hz 64,_,addN (k:=128) (by omega),_,z_bZ _,?_⟩
       intro b β w' hs
       exact hs.fin [0] ⟨_,4,rfl,Nat.le_refl 4,by rw [maxLen_eq];decide,rfl⟩)
theorem z_qQ {l:List UInt8} {x:Rn} (hx:x∈runesAt l 0):x.2= -1\/0<=x.2:=by
 have h:=z_e6 l _ 0 (Nat.le_refl _)
 rw [List.drop_zero] at h
 have hm:x.2∈(Nam.runes l).map runeI:=by rw [<-h];exact List.mem_map.2 ⟨x,hx,rfl⟩
 obtain ⟨o,_,he⟩:=List.mem_map.1 hm
 cases o with
 | none=>exact .inl he.symm
 | some r=>right;rw [<-he];exact Int.natCast_nonneg r
theorem signRd {w:World} {ad:Addr} {L:List Rn} (h:Rd 2 (some ad) L.length (signsV L) w) {k:Nat} {x:Rn} (hx:L[k]?=some x): ∀j u,(signV x)[j]?=some u->w.cell? ((ad.add (k*2)).add j)=some u:=by
 obtain ⟨hil,hie⟩:=List.getElem?_eq_some_iff.1 hx
 have h2:=Rd.elem (f:=signV) (fun _=>rfl) h rfl hil
 rw [hie] at h2
 exact h2
structure PrR where
 k:Nat
 out:List UInt8
 A:Option Addr
 c:Nat
theorem z_qW (r:Nat):(rbytesL r).length<=4:=by
 unfold rbytesL
 split
 ·exact (by decide:1<=4)
 ·split
  ·exact (by decide:2<=4)
  ·split
   ·exact (by decide:3<=4)
   ·exact Nat.le_refl 4
set_option maxHeartbeats 1000000 in
theorem z_rZ (w:World) (s:ByteArray) (hl:s.size<=100000):
  Pu Tryz.prog z_cA #[.string s] w (.tuple #[.string (mkS (prepF s.data.toList).1),.int .i64 (prepF s.data.toList).2]):=by
 have g:=z_fk w (Un [])
 have hml:=maxLen_eq
 have hlen:s.data.toList.length=s.size:=rfl
 have hLl:=z_mA s.data.toList _ 0 (Nat.le_refl _)
 obtain ⟨p,e,hpe⟩: ∃p e,prepF s.data.toList=(p,e):=⟨_,_,rfl⟩
 rw [hpe]
 have hpr:=z_uX s.data.toList
 rw [hpe] at hpr
 have fin: ∀(q:List UInt8) (d:Int),(p,e)=(q,d)-> ∀ {n:Nat} {H:List Bk} {F:List Fact} (β:Va) (w':World),Sat (z_ba w (Un [])) β n H F w'->Fin w [] (fun u Fs=>u= .tuple #[.string (mkS (p,e).1),.int .i64 (p,e).2]/\Fs=[]) (.tuple #[.string (mkS q),.int .i64 d]) w':=by
  intro q d h n H F β w' hs
  rw [h]
  exact (hs.keepB (List.nil_sublist _)).fin [] ⟨rfl,rfl⟩
 refine z_ac (cx:=z_ba w (Un [])) g z_hh rfl rfl (β:=Va.z) [.c (.v (.string s))] 0 [] [] rfl rfl (Sat.start rfl) ?_
 refine z_aa [] (fun β w' hs=>z_va w' s (by omega)) ?_
 rintro v Fs ⟨A,c,rfl,hc,hA,rfl⟩
 have hneg:=fun (x:Rn) (hx:x∈runesAt s.data.toList 0)=>z_qQ hx
 have hvi:=z_mZ s.data.toList
 have hsv:=fun hv=>z_pt (l:=s.data.toList) hv
 generalize runesAt s.data.toList 0=L at *
 generalize validB s.data.toList=bv at *
 have hL2:L.length<=100000:=by omega
 refine z_ai 0 (fun k:Nat=>[(4,.c (.v (.slice A L.length c))),(12,.c (.v (.slice A L.length c))),(13,.c (.v (.int .i64 L.length))),(14,.c (.v (.int .i64 (k:Int))))]) (fun _=>[]) (fun _=>[sgnF A L c])
  (fun k=>k<=L.length/\ ∀x∈L.take k,x.2≠ -1) (fun k=>L.length - k) 0 ⟨Nat.zero_le _,fun x h=>by cases h⟩ (Ent.same ⟨rfl,rfl,rfl,rfl,trivial⟩ rfl) g ?_
 rintro k ⟨hk,hall⟩
 refine BIf.dec (fun hlt=>?_) (fun hge=>?_)
 ·have hlt0:(k:Int)<L.length:=hlt
  have hkl:k<L.length:=by omega
  obtain ⟨x,hx,hxm⟩:=at_lt hkl
  obtain ⟨ad,rfl⟩:=hA (by omega)
  have hsn:L.take (k+1)=L.take k++[x]:=by rw [List.take_add_one,hx];rfl
  refine ⟨ad,k,rfl,rfl,hkl,signV x,rfl,fun β w' hs=>signRd (z_an (hs.get 0 rfl)) hx,?_⟩
  refine BIf.dec (fun h0=>?_) (fun h0=>?_)
  ·have h00:x.2<0:=h0
   have hx1:x.2= -1:=by rcases hneg x hxm with h | h;exact h;omega
   have hbv: ¬bv=true:=fun q=>hvi.1 q x hxm hx1
   rw [if_neg hbv] at hpr
   exact fun β w' hs=>fin [] 4 hpr β w' hs
  ·have h00: ¬x.2<0:=h0
   refine ⟨((k+1:Nat):Int),by rw [wrap_i64 (by omega) (by omega)];rfl,?_⟩
   refine ⟨k+1,⟨by omega,fun y hy=>?_⟩,by omega,Ent.mk' ⟨rfl,rfl,rfl,rfl,trivial⟩ rfl (fun β w hs=>(hs.keepB (List.nil_sublist _)).lower)⟩
   rw [hsn] at hy
   rcases List.mem_append.1 hy with q | q
   ·exact hall y q
   ·obtain rfl:=List.mem_singleton.1 q
    omega
 ·have hge0: ¬(k:Int)<L.length:=hge
  obtain rfl:k=L.length:=by omega
  rw [List.take_length] at hall
  have hbv:bv=true:=hvi.2 hall
  rw [if_pos hbv] at hpr
  have hsv:=hsv hbv
  refine z_ai (ι:=PrR) 0 (fun i=>[(7,.c (.v (.slice i.A i.out.length i.c))),(22,.c (.v (.slice A L.length c))),(23,.c (.v (.int .i64 L.length))),(24,.c (.v (.int .i64 (i.k:Int))))]) (fun _=>[]) (fun i=>[browF z_ab i.A i.out i.c,sgnF A L c])
   (fun i=>i.k<=L.length/\prepR (L.map (·.2))=(prepR ((L.drop i.k).map (·.2))).map (i.out++ ·)/\i.out.length<=i.c/\i.out.length<=4*i.k) (fun i=>L.length - i.k) ⟨0,[],none,0⟩ ⟨Nat.zero_le _,by rw [List.drop_zero];cases prepR (L.map (·.2))<;>rfl,Nat.zero_le _,Nat.zero_le _⟩ (Ent.mk' ⟨rfl,rfl,rfl,rfl,trivial⟩ rfl (fun β w hs=>hs.nilRow _ _)) g ?_
  rintro ⟨k,out,A1,c1⟩ ⟨hk,hinv,hoc,hol⟩
  simp only at hk hinv hoc hol
  simp only
  refine BIf.dec (fun hlt=>?_) (fun hge=>?_)
  ·have hlt0:(k:Int)<L.length:=hlt
   have hkl:k<L.length:=by omega
   obtain ⟨x,hx,hxm⟩:=at_lt hkl
   obtain ⟨ad,rfl⟩:=hA (by omega)
   have hdr:L.drop k=x::L.drop (k+1):=by
    obtain ⟨h1,h2⟩:=List.getElem?_eq_some_iff.1 hx
    rw [List.drop_eq_getElem_cons h1,h2]
   rw [hdr,List.map_cons,prepR] at hinv
   obtain ⟨r,hxr,hsg,hr⟩:=hsv x hxm
   obtain ⟨z,hz⟩: ∃z,x.2=z:=⟨_,rfl⟩
   rw [hz] at hinv hxr
   obtain ⟨x1,x2⟩:=x
   simp only at hz
   subst hz
   refine ⟨ad,k,rfl,rfl,hkl,signV (x1,x2),rfl,fun β w' hs=>signRd (z_an (hs.get 1 rfl)) hx,?_⟩
   obtain ⟨b1,hb1⟩: ∃b1,rblank x2=b1:=⟨_,rfl⟩
   refine z_ae (v:= .bool b1) (fun β w' hs=>by rw [<-hb1];exact z_v3 w' x2) ?_
   cases b1 with
   | true=>
    rw [if_pos hb1] at hinv
    intro b2
    refine ⟨1,out.length,out.length+1,out.map byte,[32].map byte,(out++[32]).map byte,rfl,fun β w hs=>z_an (hs.get 0 rfl),z_ap _,rfl,List.map_append.symm,by rw [maxLen_eq];omega,by show (out.length+1)*1<=_;omega,?_⟩
    intro A' c' q1 q2 _
    refine ⟨((k+1:Nat):Int),by rw [wrap_i64 (by omega) (by omega)];rfl,?_⟩
    have hle:(out++[32]:List UInt8).length=out.length+1:=by simp
    refine ⟨⟨k+1,out++[32],A',c'⟩,⟨by show k+1<=_;omega,?_,by show (out++[32]:List UInt8).length<=c';omega,by show (out++[32]:List UInt8).length<=4*(k+1);omega⟩,by show L.length - (k+1)<L.length - k;omega,?_⟩
    ·rw [hinv]
     show _=(prepR ((L.drop (k+1)).map (·.2))).map (out++[32]++ ·)
     cases prepR ((L.drop (k+1)).map (·.2)) with
     | none=>rfl
     | some q=>simp
    ·simp only [browF,hle]
     exact Ent.mk' ⟨rfl,rfl,rfl,rfl,trivial⟩ rfl (fun β w hs=>((hs.perm [1,2]).keepB (List.nil_sublist _)).lower)
   | false=>
    rw [if_neg (by rw [hb1];decide)] at hinv
    obtain ⟨b2,hb2⟩: ∃b2,rgoes x2=b2:=⟨_,rfl⟩
    refine z_ae (v:= .bool b2) (fun β w' hs=>by rw [<-hb2];exact z_xw w' x2) ?_
    cases b2 with
    | true=>
     rw [if_pos hb2] at hinv
     refine ⟨((k+1:Nat):Int),by rw [wrap_i64 (by omega) (by omega)];rfl,?_⟩
     exact ⟨⟨k+1,out,A1,c1⟩,⟨by show k+1<=_;omega,hinv,hoc,by show out.length<=4*(k+1);omega⟩,by show L.length - (k+1)<L.length - k;omega,Ent.mk' ⟨rfl,rfl,rfl,rfl,trivial⟩ rfl (fun β w hs=>(hs.keepB (List.nil_sublist _)).lower)⟩
    | false=>
     rw [if_neg (by rw [hb2];decide)] at hinv
     obtain ⟨b3,hb3⟩: ∃b3,rbars x2=b3:=⟨_,rfl⟩
     refine z_ae (v:= .bool b3) (fun β w' hs=>by rw [<-hb3];exact z_w8 w' x2 (by omega)) ?_
     cases b3 with
     | true=>
      rw [if_pos hb3] at hinv
      have hno:prepR (L.map (·.2))=none:=hinv
      rw [hno] at hpr
      exact fun β w' hs=>fin [] 5 hpr β w' hs
     | false=>
      rw [if_neg (by rw [hb3];decide)] at hinv
      refine z_aa [] (fun β w' hs=>z_v0 w' r x2 hxr.symm hsg) ?_
      rintro v Fs ⟨A2,c2,rfl,hc2,hm2,rfl⟩
      have hrl:=z_qW r
      rw [hxr,Int.toNat_natCast] at hinv
      generalize rbytesL r=bs at *
      refine ⟨1,out.length,out.length+bs.length,out.map byte,bs.map byte,(out++bs).map byte,rfl,fun β w hs=>z_an (hs.get 0 rfl),z_ap _,rfl,List.map_append.symm,by rw [maxLen_eq];omega,by show (out.length+bs.length)*1<=_;omega,?_⟩
      intro A' c' q1 q2 _
      refine ⟨((k+1:Nat):Int),by rw [wrap_i64 (by omega) (by omega)];rfl,?_⟩
      have hle:(out++bs).length=out.length+bs.length:=List.length_append
      refine ⟨⟨k+1,out++bs,A',c'⟩,⟨by show k+1<=_;omega,?_,by show (out++bs).length<=c';omega,by show (out++bs).length<=4*(k+1);omega⟩,by show L.length - (k+1)<L.length - k;omega,?_⟩
      ·rw [hinv]
       show _=(prepR ((L.drop (k+1)).map (·.2))).map (out++bs++ ·)
       cases prepR ((L.drop (k+1)).map (·.2)) with
       | none=>rfl
       | some q=>simp
      ·simp only [browF,hle]
       exact Ent.mk' ⟨rfl,rfl,rfl,rfl,trivial⟩ rfl (fun β w hs=>((hs.perm [1,2]).keepB (List.nil_sublist _)).lower)
  ·have hge0: ¬(k:Int)<L.length:=hge
   obtain rfl:k=L.length:=by omega
   rw [List.drop_length] at hinv
   have hso:prepR (L.map (·.2))=some out:=by rw [hinv];simp [prepR]
   rw [hso] at hpr
   refine ⟨out,fun β w hs=>z_an (hs.get 0 rfl),?_⟩
   exact fun β w' hs=>fin out 0 hpr β w' hs
theorem z_v1 (w:World) (s:ByteArray) (most:Nat) (hl:s.size<=100000):
  Pu Tryz.prog z_bL #[.string s,.int .i64 (most:Int)] w (.tuple #[.string (mkS (sizF s.data.toList most).1),.int .i64 (sizF s.data.toList most).2]):=by
 have g:=z_gD w (Un [])
 refine z_ac (cx:=z_bs w (Un [])) g z_iT rfl rfl (β:=Va.z) [.c (.v (.string s)),.c (.v (.int .i64 (most:Int)))] 0 [] [oldF w] rfl rfl (z_ay rfl) ?_
 obtain ⟨p,e,hpe⟩: ∃p e,prepF s.data.toList=(p,e):=⟨_,_,rfl⟩
 have hz:sizF s.data.toList most=if e=0 then if p=[] then ([],2) else if most<p.length then ([],3) else (p,0) else ([],e):=by unfold sizF;rw [hpe]
 refine z_ae (v:= .tuple #[.string (mkS p),.int .i64 e]) (fun β w' hs=>by
  have h:=z_rZ w' s hl
  rw [hpe] at h
  exact h) ?_
 have fin: ∀(q:List UInt8) (d:Int),sizF s.data.toList most=(q,d)-> ∀ {n:Nat} {H:List Bk} {F:List Fact} (β:Va) (w':World),Sat (z_bs w (Un [])) β n H F w'->Fin w [] (fun u Fs=>u= .tuple #[.string (mkS (sizF s.data.toList most).1),.int .i64 (sizF s.data.toList most).2]/\Fs=[]) (.tuple #[.string (mkS q),.int .i64 d]) w':=by
  intro q d h n H F β w' hs
  rw [h]
  exact (hs.keepB (List.nil_sublist _)).fin [] ⟨rfl,rfl⟩
 have hsz:(mkS p).size=p.length:=by simp [mkS,ByteArray.size]
 refine BIf.not (BIf.dec (fun he=>?_) (fun he=>?_))
 ·have he0:e=0:=he
  rw [if_pos he0] at hz
  refine BIf.dec (fun hp=>?_) (fun hp=>?_)
  ·have hp0:((mkS p).size:Int)=0:=hp
   rw [hsz] at hp0
   have hp1:p=[]:=List.length_eq_zero_iff.1 (by omega)
   rw [if_pos hp1] at hz
   exact fun β w' hs=>fin [] 2 hz β w' hs
  ·have hp0: ¬((mkS p).size:Int)=0:=hp
   rw [hsz] at hp0
   rw [if_neg (fun q=>hp0 (by rw [q];rfl))] at hz
   refine BIf.dec (fun hm=>?_) (fun hm=>?_)
   ·have hm0:(most:Int)<((mkS p).size:Int):=hm
    rw [hsz] at hm0
    rw [if_pos (by omega)] at hz
    exact fun β w' hs=>fin [] 3 hz β w' hs
   ·have hm0: ¬(most:Int)<((mkS p).size:Int):=hm
    rw [hsz] at hm0
    rw [if_neg (by omega)] at hz
    exact fun β w' hs=>fin p 0 hz β w' hs
 ·have he0: ¬e=0:=he
  rw [if_neg he0] at hz
  exact fun β w' hs=>fin [] e hz β w' hs
end Go.Proofs.YtloeaiafphkjnaaGreatDoor.Sx
namespace Go.Proofs.YtloeaiafphkjnaaGreatDoor.Sx
open Go Sha
attribute [local irreducible] Calls
theorem z_vH (w:World) (A:Option Addr) (n c:Nat) (i:Int):Pu Tryz.prog z_c1 #[.slice A n c,.int .i64 i] w (.bool (decide (0<n/\n<=32/\0<i/\i<=64))):=by
 refine pu_of (z_aH (cx:=z_cD w None_) (z_fC w None_) z_hN rfl rfl (β:=Va.z) [.c (.v (.slice A n c)),.c (.v (.int .i64 i))] 0 [] [] rfl rfl (Sat.start rfl) ?_)
 refine BIf.dec (fun q0=>?_) (fun q0=>?_)
 ·refine BIf.dec (fun q1=>?_) (fun q1=>?_)
  ·refine BIf.dec (fun q2=>?_) (fun q2=>?_)
   ·intro β w' hs
    refine ⟨?_,hs.chg⟩
    show Value.bool (decide (i<=64))=_
    congr 1
    exact decide_eq_decide.2 ⟨fun h=>⟨by omega,by omega,q2,h⟩,fun h=>h.2.2.2⟩
   ·intro β w' hs
    refine ⟨?_,hs.chg⟩
    show Value.bool false=_
    congr 1
    exact (decide_eq_false (fun h=>q2 h.2.2.1)).symm
  ·intro β w' hs
   refine ⟨?_,hs.chg⟩
   show Value.bool false=_
   congr 1
   exact (decide_eq_false (fun h=>q1 (by have:=h.2.1;omega))).symm
 ·intro β w' hs
  refine ⟨?_,hs.chg⟩
  show Value.bool false=_
  congr 1
  exact (decide_eq_false (fun h=>q0 (by have:=h.1;omega))).symm
theorem z_xY (w:World) (x:SecA):Pu Tryz.prog z_bQ #[x.val] w (.bool (decide ((0<x.s0.length/\x.s0.length<=32/\0<x.it/\x.it<=64)/\x.s1.length=32/\x.s2.length=32/\x.s3.length=32))):=by
 refine pu_of (z_aH (cx:=z_c5 w None_) (z_gF w None_) z_iN rfl rfl (β:=Va.z) [.agg x.cells] 0 [] [] rfl rfl (Sat.start rfl) ?_)
 refine z_ae (fun β w' hs=>z_vH w' x.A0 x.s0.length x.c0 x.it) ?_
 have e: ∀(n:Nat),(n:Int)=32↔n=32:=fun n=>by omega
 refine BIf.dec (fun q0=>?_) (fun q0=>?_)
 ·refine BIf.dec (fun q1=>?_) (fun q1=>?_)
  ·refine BIf.dec (fun q2=>?_) (fun q2=>?_)
   ·intro β w' hs
    refine ⟨?_,hs.chg⟩
    show Value.bool (decide ((x.s3.length:Int)=32))=_
    congr 1
    exact decide_eq_decide.2 ⟨fun h=>⟨q0,(e _).1 q1,(e _).1 q2,(e _).1 h⟩,fun h=>(e _).2 h.2.2.2⟩
   ·intro β w' hs
    refine ⟨?_,hs.chg⟩
    show Value.bool false=_
    congr 1
    exact (decide_eq_false (fun h=>q2 ((e _).2 h.2.2.1))).symm
  ·intro β w' hs
   refine ⟨?_,hs.chg⟩
   show Value.bool false=_
   congr 1
   exact (decide_eq_false (fun h=>q1 ((e _).2 h.2.1))).symm
 ·intro β w' hs
  refine ⟨?_,hs.chg⟩
  show Value.bool false=_
  congr 1
  exact (decide_eq_false (fun h=>q0 h.1)).symm
end Go.Proofs.YtloeaiafphkjnaaGreatDoor.Sx
namespace Go.Proofs.YtloeaiafphkjnaaGreatDoor.Sx
open Go
attribute [local irreducible] Calls
set_option maxHeartbeats 1000000 in
theorem z_mu (w:World) (s:ByteArray) (hl:s.size<=100000):Pu Tryz.prog z_dG #[.string s] w (.bool (plainF s.data.toList)):=by
  have g:=z_gP w (Un [])
  have hlen:s.data.toList.length=s.size:=rfl
  refine z_ac (cx:=z_by w (Un [])) g z_iS rfl rfl (β:=Va.z) [.c (.v (.string s))] 0 [] [] rfl rfl (Sat.start rfl) ?_
  refine z_ai 0 (fun k:Nat=>[(0,.c (.v (.string s))),(3,.c (.v (.int .i64 (k:Int))))]) (fun _=>[]) (fun _=>[])
    (fun k=>k<=s.size/\(s.data.toList.take k).all okc=true) (fun k=>s.size - k) 0 ⟨Nat.zero_le _,rfl⟩ (Ent.same ⟨rfl,rfl,trivial⟩ rfl) g ?_
  rintro k ⟨hk,hall⟩
  refine BIf.dec (fun hlt=>?_) (fun hge=>?_)
  · have hlt0:(k:Int)<s.size:=hlt
    have hkl:k<s.size:=by omega
    obtain ⟨x,hx,hxm⟩:=at_lt (l:=s.data.toList) (k:=k) (by omega)
    obtain ⟨z,hz⟩: ∃z:Int,(x.toNat:Int)=z:=⟨_,rfl⟩
    have hsn:okc x=true->(s.data.toList.take (k+1)).all okc=true:=fun h=>by rw [List.take_add_one,hx,List.all_append,hall];simp [h]
    have bad:okc x=false-> ∀ {n:Nat} {H:List Bk} {F:List Fact} (β:Va) (w':World),Sat (z_by w (Un [])) β n H F w'->Fin w [] (fun u Fs=>u= .bool (plainF s.data.toList)/\Fs=[]) (.bool false) w':=by
      intro h n H F β w' hs
      refine (hs.keepB (List.nil_sublist _)).fin [] ⟨?_,rfl⟩
      have:s.data.toList.all okc=false:=by
        rw [List.all_eq_false]
        exact ⟨x,hxm,by rw [h];decide⟩
      unfold plainF
      rw [this]
      rfl
    refine ⟨k,x,rfl,hx,?_⟩
    have hb:byte x= .int .u8 z:=by rw [<-hz];rfl
    rw [hb]
    clear hb
    repeat' first
      | refine BIf.dec (fun h=>?_) (fun h=>?_)
      | refine BIf.not (BIf.dec (fun h=>?_) (fun h=>?_))
    all_goals first
      | exact fun β w' hs=>bad (by simp only [okc,decide_eq_false_iff_not];omega) β w' hs
      | (refine ⟨((k+1:Nat):Int),by rw [wrap_i64 (by omega) (by omega)];rfl,?_⟩
         exact ⟨k+1,⟨hkl,hsn (by simp only [okc,decide_eq_true_eq];omega)⟩,by omega,Ent.same ⟨rfl,rfl,trivial⟩ rfl⟩)
  · have hge0: ¬(k:Int)<s.size:=hge
    obtain rfl:k=s.size:=by omega
    rw [<-hlen,List.take_length] at hall
    have hpl:plainF s.data.toList=(decide (s.data.toList≠[])&&decide (s.data.toList.length<=32)):=by unfold plainF;rw [hall,Bool.true_and]
    have hne:s.data.toList≠[]↔1<=s.size:=by
      rw [<-hlen]
      exact ⟨fun h=>List.length_pos_iff.2 h,fun h=>List.length_pos_iff.1 h⟩
    refine BIf.dec (fun h1=>?_) (fun h1=>?_)
    · have h10:(1:Int)<=s.size:=h1
      intro β w' hs
      refine (hs.keepB (List.nil_sublist _)).fin [] ⟨?_,rfl⟩
      rw [hpl,decide_eq_true (hne.2 (by omega)),Bool.true_and,hlen]
      show Value.bool (decide ((s.size:Int)<=32))=_
      congr 1
      exact decide_eq_decide.2 (by omega)
    · have h10: ¬(1:Int)<=s.size:=h1
      intro β w' hs
      refine (hs.keepB (List.nil_sublist _)).fin [] ⟨?_,rfl⟩
      rw [hpl,decide_eq_false (fun q=>h10 (by have:=hne.1 q;omega)),Bool.false_and]
      rfl
def poF (P:List Fact):Fact where
 own:=true
 D:=fun k=> ∃f∈P,f.D k
 p:=fun w=> ∀f∈P,f.p w
 st:=fun w w' hs h f hf=>f.st w w' (fun k hk=>hs k ⟨f,hf,hk⟩) (h f hf)
def inP (P:List Fact) (c:Crd):Prop:=secF c.sec.x c.sec.a∈P/\rdF 1 c.rA c.roles.length (strs c.roles)∈P/\c.roles.length<=c.rc
structure RS where
 b:Nat
 tA:Option Addr
 tc:Nat
 ts:List ByteArray
 lA:Option Addr
 lc:Nat
 cs:List Crd
 ps:List Fact
 last:Nat
 reads:Int
def RS.vs (R:RS):List Value:=[.slice R.tA R.ts.length R.tc,.slice R.lA R.cs.length R.lc,.int .u64 (R.last:Int),.int .u64 R.reads]
abbrev crowF (A:Option Addr) (cs:List Crd) (c:Nat):Fact:=rowF z_af 10 (.slice A cs.length c) cs.length (cs.flatMap Crd.vs)
def RS.fs (R:RS):List Fact:=[bkF R.b z_au R.vs,strsF R.tA R.ts,crowF R.lA R.cs R.lc,poF R.ps]
def rsF (R:RS):Fact:=sepF R.fs
theorem rs_bk {R:RS} {w:World} (h:(rsF R).p w):(bkF R.b z_au R.vs).p w:=h.1 _ (by simp [RS.fs])
theorem rs_ts {R:RS} {w:World} (h:(rsF R).p w):Rd 1 R.tA R.ts.length (strs R.ts) w:=h.1 (strsF R.tA R.ts) (by simp [RS.fs])
theorem rs_rd {R:RS} {w:World} (h:(rsF R).p w):Rd 10 R.lA R.cs.length (R.cs.flatMap Crd.vs) w:=z_an (h.1 (crowF R.lA R.cs R.lc) (by simp [RS.fs]))
theorem rs_po {R:RS} {w:World} (h:(rsF R).p w):(poF R.ps).p w:=h.1 (poF R.ps) (by simp [RS.fs])
theorem z_gs (c:Crd):c.vs.length=10:=rfl
theorem z_kL {w:World} {A:Option Addr} {ad:Addr} {cs:List Crd} (h:Rd 10 A cs.length (cs.flatMap Crd.vs) w) (hA:A=some ad) {k:Nat} {c:Crd} (hc:cs[k]?=some c): ∀j u,c.vs[j]?=some u->w.cell? ((ad.add (k*10)).add j)=some u:=by
 obtain ⟨hil,hie⟩:=List.getElem?_eq_some_iff.1 hc
 have h2:=Rd.elem (f:=Crd.vs) z_gs h hA hil
 rw [hie] at h2
 exact h2
def isU (t u:ByteArray) (c:Crd):Prop:=(nameA u).2=0/\c.tenant=t/\c.user=(nameA u).1
def FindR (cs:List Crd) (t u:ByteArray) (i:Int):Prop:=(i= -1/\ ∀c∈cs,¬isU t u c)\/ ∃(k:Nat) (c:Crd),i=(k:Int)/\cs[k]?=some c/\isU t u c/\ ∀d∈cs.take k,¬isU t u d
theorem rsz_c (w:World) (u:ByteArray) (hu:u.size<=100000):Pu Tryz.prog z_bL #[.string u,.int .i64 32] w (.tuple #[.string (nameA u).1,.int .i64 (nameA u).2]):=z_v1 w u 32 hu
theorem z_xF (w:World) (R:RS) (t u:ByteArray) (h:(rsF R).p w) (hl: ∀k,(rsF R).D k->k<w.heap.size) (hu:u.size<=100000) (hn:R.cs.length<=1000000):
  Con Tryz.prog z_b6 #[ptr R.b,.string t,.string u] w [] fun v Fs=> ∃i:Int,v= .int .i64 i/\FindR R.cs t u i/\Fs=[]:=by
 have g:=z_gY w (Un [])
 refine z_ac (cx:=z_dM w (Un [])) g z_jq rfl rfl (β:=Va.z) [.c (.v (ptr R.b)),.c (.v (.string t)),.c (.v (.string u))] 0 [] [oldF w] rfl rfl (z_ay rfl) ?_
 have ho: ∀w',(oldF w).p w'->(rsF R).p w':=fun w' h2=>z_bt h hl h2
 refine z_ae (fun β w' hs=>rsz_c w' u hu) ?_
 obtain ⟨p,e,hpe⟩: ∃p e,nameA u=(p,e):=⟨_,_,rfl⟩
 have hU: ∀c,isU t u c↔(e=0/\c.tenant=t/\c.user=p):=fun c=>by unfold isU;rw [hpe]
 rw [hpe]
 refine BIf.dec (fun he=>?_) (fun he=>?_)
 rotate_left
 ·have he0: ¬e=0:=he
  intro β w' hs
  exact hs.fin [] ⟨-1,rfl,.inl ⟨rfl,fun c _ q=>he0 ((hU c).1 q).1⟩,rfl⟩
 have he0:e=0:=he
 refine ⟨.slice R.lA R.cs.length R.lc,fun β w' hs=>bkc (rs_bk (ho w' (hs.get 0 rfl))) rfl,?_⟩
 refine z_ai 0 (fun i:Nat=>[(1,.c (.v (.string t))),(7,.c (.v (.string p))),(25,.c (.v (.slice R.lA R.cs.length R.lc))),(26,.c (.v (.int .i64 R.cs.length))),(27,.c (.v (.int .i64 (i:Int))))]) (fun _=>[]) (fun _=>[oldF w])
  (fun i=>i<=R.cs.length/\ ∀c∈R.cs.take i,¬isU t u c) (fun i=>R.cs.length - i) 0 ⟨Nat.zero_le _,fun c h=>by cases h⟩ (Ent.same ⟨rfl,rfl,rfl,rfl,rfl,trivial⟩ rfl) g ?_
 rintro i ⟨hi,hpre⟩
 refine BIf.dec (fun hlt=>?_) (fun hge=>?_)
 ·have hlt0:(i:Int)<R.cs.length:=hlt
  obtain ⟨c,hc,hcm⟩:=at_lt (show i<R.cs.length by omega)
  obtain ⟨ad,hA,_⟩:=(rs_rd h).2 (by omega)
  refine ⟨ad,i,hA,rfl,by omega,c.vs,rfl,fun β w' hs=>z_kL (rs_rd (ho w' (hs.get 0 rfl))) hA hc,?_⟩
  have next: ¬isU t u c-> ∀d∈R.cs.take (i+1),¬isU t u d:=fun hn d hd=>by
   rw [List.take_add_one,hc] at hd
   rcases List.mem_append.1 hd with hd | hd
   ·exact hpre d hd
   ·obtain rfl:=List.mem_singleton.1 hd
    exact hn
  refine BIf.dec (fun h1=>?_) (fun h1=>?_)
  ·have h10:c.tenant=t:=h1
   refine BIf.dec (fun h2=>?_) (fun h2=>?_)
   ·have h20:c.user=p:=h2
    intro β w' hs
    exact (hs.keepB (List.nil_sublist _)).fin [] ⟨(i:Int),rfl,.inr ⟨i,c,rfl,hc,(hU c).2 ⟨he0,h10,h20⟩,hpre⟩,rfl⟩
   ·have h20: ¬c.user=p:=h2
    refine ⟨((i+1:Nat):Int),by rw [wrap_i64 (by omega) (by omega)];rfl,?_⟩
    exact ⟨i+1,⟨by omega,next fun q=>h20 ((hU c).1 q).2.2⟩,by omega,Ent.mk' ⟨rfl,rfl,rfl,rfl,rfl,trivial⟩ rfl (fun β w' hs=>(hs.keepB (List.nil_sublist _)).lower)⟩
  ·have h10: ¬c.tenant=t:=h1
   refine ⟨((i+1:Nat):Int),by rw [wrap_i64 (by omega) (by omega)];rfl,?_⟩
   exact ⟨i+1,⟨by omega,next fun q=>h10 ((hU c).1 q).2.1⟩,by omega,Ent.mk' ⟨rfl,rfl,rfl,rfl,rfl,trivial⟩ rfl (fun β w' hs=>(hs.keepB (List.nil_sublist _)).lower)⟩
 ·have hge0: ¬(i:Int)<R.cs.length:=hge
  rw [List.take_of_length_le (by omega)] at hpre
  intro β w' hs
  exact hs.fin [] ⟨-1,rfl,.inl ⟨rfl,hpre⟩,rfl⟩
structure RA where
 ts:List ByteArray
 cs:List ACrd
 last:Nat
 reads:Int
def RS.a (R:RS):RA:=⟨R.ts,R.cs.map Crd.a,R.last,R.reads⟩
structure RS.Wf (R:RS):Prop where
 tc:R.ts.length<=R.tc
 lc:R.cs.length<=R.lc
 tn:R.ts.length<=1000
 ln:R.cs.length<=1000
 ris:R.ts.Pairwise tlt
 mem: ∀c∈R.cs,inP R.ps c
 ro: ∀c∈R.cs,c.roles.Pairwise tlt/\c.roles.length<=8
def rsOut (R:RS) (r:Int×RA) (v:Value) (Fs:List Fact):Prop:= ∃R':RS,v= .int .i64 r.1/\R'.a=r.2/\R'.b=R.b/\R'.ts.length<=R'.tc/\R'.cs.length<=R'.lc/\(∀c∈R'.cs,inP R'.ps c)/\(∀f∈R.ps,f∈R'.ps)/\Fs=[rsF R']
theorem z_ar {R:RS} {r:Int×RA} {e:Int} (hw:R.Wf) (h:r=(e,R.a)):rsOut R r (.int .i64 e) [rsF R]:=⟨R,by rw [h],by rw [h],rfl,hw.tc,hw.lc,hw.mem,fun _ h=>h,rfl⟩
theorem z_aD {js:List Nat}: ∀ {F:List Fact} {i:Nat},(∀j∈js,j<i)->dropIx js i F=F
 | [],_,_=>rfl
 | f::r,i,h=>by
  have hm:memb js i=false:=by
   cases q:memb js i with
   | false=>rfl
   | true=>exact absurd (h i (z_mo q)) (Nat.lt_irrefl _)
  simp only [dropIx,hm]
  rw [z_aD (fun j hj=>Nat.lt_succ_of_lt (h j hj))]
theorem Sat.rsTs {cx:Cx} {β:Va} {n:Nat} {H:List Bk} {w:World} {R:RS} {ts:List ByteArray} {A:Option Addr} {c:Nat} {F:List Fact} (h:Sat cx β n H (srowF A ts c::rsF R::F) w):
  ∃w',(storeCells ((⟨R.b,0,none⟩:Addr).add 0) [.slice A ts.length c] 0).run cx.P w= .ok () w'/\Sat cx β n H (rsF {R with tA:=A,tc:=c,ts:=ts}::F) w':=by
 have h1:=(h.unsep 1 rfl).strsRow 4 rfl
 obtain ⟨w2,e1,e2⟩:=h1.bkSet 0 (o:=0) (us:=[.slice A ts.length c]) rfl (by show 1<=4;decide) (fun u hu=>by obtain rfl:=List.mem_singleton.1 hu;rfl)
 refine ⟨w2,e1,?_⟩
 have h2:=e2.sep [0,4,2,3] rfl ⟨rfl,rfl,rfl,rfl,trivial⟩
 have e0:dropIx [1] 2 F=F:=z_aD (by decide)
 have e3:dropIx [0,4,2,3] 5 F=F:=z_aD (by decide)
 refine h2.weaken (List.Sublist.refl _) ?_
 show List.Sublist _ (_::strsF R.tA R.ts::dropIx [0,4,2,3] 5 (dropIx [1] 2 F))
 rw [e0,e3]
 exact List.Sublist.cons_cons _ (List.sublist_cons_self _ _)
def addTR (X:RA) (t:ByteArray):Int×RA:=
 if plainF t.data.toList=false then (5,X) else if hasT X.ts t=true then (7,X) else if 8<=X.ts.length then (8,X) else (0,{X with ts:=insT X.ts (rank X.ts t) t})
theorem z_sV (w:World) (R:RS) (t:ByteArray) (hw:R.Wf) (ht:t.size<=100000) (hm:Mem w [rsF R]):Con Tryz.prog z_cd #[ptr R.b,.string t] w [rsF R] (rsOut R (addTR R.a t)):=by
 have g:=z_eo w (Un [rsF R])
 have htn:=hw.tn
 refine z_ac (cx:=z_bS w (Un [rsF R])) g z_fL rfl rfl (β:=Va.z) [.c (.v (ptr R.b)),.c (.v (.string t))] 0 [] [rsF R] rfl rfl (hm.sat0 rfl (fun f hf _ k hk=>⟨f,hf,hk⟩)) ?_
 refine z_ae (fun β w' hs=>z_mu w' t ht) ?_
 have hr:addTR R.a t=if plainF t.data.toList=false then (5,R.a) else if hasT R.ts t=true then (7,R.a) else if 8<=R.ts.length then (8,R.a) else (0,{R.a with ts:=insT R.ts (rank R.ts t) t}):=rfl
 generalize plainF t.data.toList=bp at hr
 cases bp with
 | false=>
  intro β w' hs
  exact hs.fin [0] (z_ar hw hr)
 | true=>
 rw [if_neg (by decide)] at hr
 refine ⟨.slice R.tA R.ts.length R.tc,fun β w' hs=>bkc (rs_bk (hs.get 0 rfl)) rfl,?_⟩
 refine z_ae (fun β w' hs=>inT_c w' R.tA R.ts R.tc t (rs_ts (hs.get 0 rfl)) (by omega)) ?_
 generalize hasT R.ts t=bh at hr
 cases bh with
 | true=>
  intro β w' hs
  exact hs.fin [0] (z_ar hw hr)
 | false=>
 rw [if_neg (by decide)] at hr
 refine ⟨.slice R.tA R.ts.length R.tc,fun β w' hs=>bkc (rs_bk (hs.get 0 rfl)) rfl,?_⟩
 refine BIf.dec (fun hf=>?_) (fun hf=>?_)
 ·have hf0:(8:Int)<=(R.ts.length:Int):=hf
  rw [if_pos (by omega)] at hr
  intro β w' hs
  exact hs.fin [0] (z_ar hw hr)
 have hf0: ¬(8:Int)<=(R.ts.length:Int):=hf
 rw [if_neg (by omega)] at hr
 refine ⟨.slice R.tA R.ts.length R.tc,fun β w' hs=>bkc (rs_bk (hs.get 0 rfl)) rfl,?_⟩
 refine z_aa [] (fun β w' hs=>put_c w' R.tA R.ts R.tc t (rs_ts (hs.get 0 rfl)) (by omega) hw.tc hw.ris) ?_
 rintro v Fs ⟨A,c,rfl,hc,rfl⟩
 refine ⟨[rsF {R with tA:=A,tc:=c,ts:=insT R.ts (rank R.ts t) t}],fun β w' hs=>hs.rsTs,?_⟩
 intro β w' hs
 exact hs.fin [0] ⟨{R with tA:=A,tc:=c,ts:=insT R.ts (rank R.ts t) t},by rw [hr];rfl,by rw [hr];rfl,rfl,hc,hw.lc,hw.mem,fun _ h=>h,rfl⟩
theorem z_jM (c:Crd): ∀u∈c.vs,u.oneCell'=true:=fun u hu=>by
 simp only [Crd.vs,Sec.vs,List.mem_cons,List.mem_append,List.not_mem_nil,or_false] at hu
 rcases hu with rfl | rfl | (rfl | rfl | rfl | rfl | rfl) | rfl | rfl | rfl<;>rfl
theorem z_d3 (cs:List Crd): ∀u∈cs.flatMap Crd.vs,u.oneCell'=true:=fun u hu=>by
 obtain ⟨c,_,hc⟩:=List.mem_flatMap.1 hu
 exact z_jM c u hc
theorem z_vl (cs:List Crd):(cs.flatMap Crd.vs).length=cs.length*10:=z_uT Crd.vs 10 z_gs cs
theorem z_nK: ∀(cs:List Crd) (i:Nat),(cs.flatMap Crd.vs).drop (i*10)=(cs.drop i).flatMap Crd.vs
 | cs,0=>by simp
 | [],i+1=>by simp
 | c::r,i+1=>by
  rw [List.flatMap_cons,List.drop_append,List.drop_of_length_le (by rw [z_gs];omega),z_gs,List.nil_append,List.drop_succ_cons,<-z_nK r i]
  congr 1
  omega
theorem z_nw: ∀(cs:List Crd) (i:Nat),(cs.flatMap Crd.vs).take (i*10)=(cs.take i).flatMap Crd.vs
 | cs,0=>by simp
 | [],i+1=>by simp
 | c::r,i+1=>by
  rw [List.flatMap_cons,List.take_append,List.take_of_length_le (by rw [z_gs];omega),z_gs,List.take_succ_cons,List.flatMap_cons,<-z_nw r i]
  congr 2
  omega
theorem z_mp {w:World} {A:Option Addr} {cs:List Crd} (h:Rd 10 A cs.length (cs.flatMap Crd.vs) w) {c i j:Nat} (hn:cs.length<=c) (hij:i<=j) (hj:j<=cs.length):Rd 10 (cutA A c i 10) (j - i) (((cs.drop i).take (j - i)).flatMap Crd.vs) w:=by
 have h1:=h.cutN hn hij hj
 rw [z_nK,z_nw] at h1
 exact h1
theorem Sat.rsLs {cx:Cx} {β:Va} {n:Nat} {H:List Bk} {w:World} {R:RS} {cs:List Crd} {A:Option Addr} {c:Nat} {F:List Fact} (h:Sat cx β n H (crowF A cs c::rsF R::F) w):
  ∃w',(storeCells ((⟨R.b,0,none⟩:Addr).add 1) [.slice A cs.length c] 0).run cx.P w= .ok () w'/\Sat cx β n H (rsF {R with lA:=A,lc:=c,cs:=cs}::F) w':=by
 have h1:=h.unsep 1 rfl
 obtain ⟨w2,e1,e2⟩:=h1.bkSet 0 (o:=1) (us:=[.slice A cs.length c]) rfl (by show 2<=4;decide) (fun u hu=>by obtain rfl:=List.mem_singleton.1 hu;rfl)
 refine ⟨w2,e1,?_⟩
 have h2:=e2.sep [0,1,4,3] rfl ⟨rfl,rfl,rfl,rfl,trivial⟩
 have e0:dropIx [1] 2 F=F:=z_aD (by decide)
 have e3:dropIx [0,1,4,3] 5 F=F:=z_aD (by decide)
 refine h2.weaken (List.Sublist.refl _) ?_
 show List.Sublist _ (_::crowF R.lA R.cs R.lc::dropIx [0,1,4,3] 5 (dropIx [1] 2 F))
 rw [e0,e3]
 exact List.Sublist.cons_cons _ (List.sublist_cons_self _ _)
def outT (cs:List Crd) (t:ByteArray):List Crd:=cs.filter fun c=>!decide (c.tenant=t)
theorem z_yt (cs:List Crd) (t:ByteArray):(outT cs t).map Crd.a=(cs.map Crd.a).filter fun c=>!decide (c.tenant=t):=by
 unfold outT
 rw [List.filter_map]
 rfl
def dropTR (X:RA) (t:ByteArray):Int×RA:=if hasT X.ts t=false then (6,X) else (0,{X with ts:=wout X.ts t,cs:=X.cs.filter fun c=>!decide (c.tenant=t)})
set_option maxHeartbeats 1000000 in
theorem z_vK (w:World) (R:RS) (t:ByteArray) (hw:R.Wf) (hm:Mem w [rsF R]):Con Tryz.prog z_bV #[ptr R.b,.string t] w [rsF R] (rsOut R (dropTR R.a t)):=by
 have g:=z_d2 w (Un [rsF R])
 have htn:=hw.tn
 have hln:=hw.ln
 have hml:=maxLen_eq
 refine z_ac (cx:=z_bH w (Un [rsF R])) g z_fm rfl rfl (β:=Va.z) [.c (.v (ptr R.b)),.c (.v (.string t))] 0 [] [rsF R] rfl rfl (hm.sat0 rfl (fun f hf _ k hk=>⟨f,hf,hk⟩)) ?_
 refine ⟨.slice R.tA R.ts.length R.tc,fun β w' hs=>bkc (rs_bk (hs.get 0 rfl)) rfl,?_⟩
 refine z_ae (fun β w' hs=>inT_c w' R.tA R.ts R.tc t (rs_ts (hs.get 0 rfl)) (by omega)) ?_
 have hr:dropTR R.a t=if hasT R.ts t=false then (6,R.a) else (0,{R.a with ts:=wout R.ts t,cs:=(R.cs.map Crd.a).filter fun c=>!decide (c.tenant=t)}):=rfl
 generalize hasT R.ts t=bh at hr
 cases bh with
 | false=>
  intro β w' hs
  exact hs.fin [0] (z_ar hw hr)
 | true=>
 rw [if_neg (by decide)] at hr
 refine ⟨.slice R.tA R.ts.length R.tc,fun β w' hs=>bkc (rs_bk (hs.get 0 rfl)) rfl,?_⟩
 refine z_aa [] (fun β w' hs=>z_p2 w' R.tA R.ts R.tc t (rs_ts (hs.get 0 rfl)) (by omega)) ?_
 rintro v Fs ⟨A1,c1,rfl,hc1,rfl⟩
 refine ⟨[rsF {R with tA:=A1,tc:=c1,ts:=wout R.ts t}],fun β w' hs=>hs.rsTs,?_⟩
 obtain ⟨R1,hR1⟩: ∃R1:RS,{R with tA:=A1,tc:=c1,ts:=wout R.ts t}=R1:=⟨_,rfl⟩
 have hb1:R1.b=R.b:=by rw [<-hR1]
 have hl1:R1.lA=R.lA:=by rw [<-hR1]
 have hc2:R1.lc=R.lc:=by rw [<-hR1]
 have hcs1:R1.cs=R.cs:=by rw [<-hR1]
 rw [hR1]
 refine ⟨.slice R.lA R.cs.length R.lc,fun β w' hs=>by rw [<-hb1,<-hl1,<-hc2,<-hcs1];exact bkc (rs_bk (hs.get 0 rfl)) rfl,?_⟩
 obtain ⟨out,hout⟩: ∃out:Nat->List Crd,∀i,out i=outT (R.cs.take i) t:=⟨fun i=>_,fun i=>rfl⟩
 have hol: ∀i,(out i).length<=1000:=fun i=>by
  rw [hout]
  exact Nat.le_trans (List.length_filter_le _ _) (by rw [List.length_take];omega)
 have h00:out 0=[]:=by rw [hout];rfl
 refine z_ai (ι:=WoJ) 0 (fun j=>[(0,.c (.v (ptr R.b))),(1,.c (.v (.string t))),(5,.c (.v (.slice j.A (out j.i).length j.c))),(31,.c (.v (.slice R.lA R.cs.length R.lc))),(32,.c (.v (.int .i64 (R.cs.length:Int)))),(33,.c (.v (.int .i64 (j.i:Int))))]) (fun _=>[]) (fun j=>[crowF j.A (out j.i) j.c,rsF R1])
  (fun j=>j.i<=R.cs.length/\(out j.i).length<=j.c) (fun j=>R.cs.length - j.i) ⟨0,none,0⟩ ⟨Nat.zero_le _,by rw [h00];exact Nat.le_refl _⟩ (Ent.mk' ⟨rfl,rfl,by show some (SV.c (.v (.slice none 0 0)))=some (SV.c (.v (.slice none (out 0).length 0)));rw [h00];rfl,rfl,rfl,rfl,trivial⟩ rfl (fun β w' hs=>by
   have h:=hs.nilRow z_af 10
   simp only [h00]
   exact h)) g ?_
 rintro ⟨i,A,c⟩ ⟨hi,hc⟩
 simp only at hi hc
 refine BIf.dec (fun hlt=>?_) (fun hge=>?_)
 ·have hlt0:(i:Int)<R.cs.length:=hlt
  obtain ⟨y,hy,hym⟩:=at_lt (show i<R.cs.length by omega)
  have hrd0:Rd 10 R.lA R.cs.length (R.cs.flatMap Crd.vs) w:=rs_rd (hm.fact (rsF R) (by simp))
  obtain ⟨ad,hA,_⟩:=hrd0.2 (by omega)
  refine ⟨ad,i,hA,rfl,by omega,y.vs,rfl,fun β w' hs=>z_kL (by have h:=rs_rd (hs.get 1 rfl);rw [hl1,hcs1] at h;exact h) hA hy,?_⟩
  have hnx:out (i+1)=out i++(if y.tenant=t then [] else [y]):=by
   rw [hout,hout]
   unfold outT
   rw [List.take_add_one,hy,List.filter_append]
   by_cases q:y.tenant=t<;>simp [q]
  refine BIf.not (BIf.dec (fun heq=>?_) (fun hne=>?_))
  ·have heq0:y.tenant=t:=heq
   rw [if_pos heq0,List.append_nil] at hnx
   refine ⟨((i+1:Nat):Int),by rw [wrap_i64 (by omega) (by omega)];rfl,?_⟩
   refine ⟨⟨i+1,A,c⟩,⟨by show i+1<=R.cs.length;omega,by show (out (i+1)).length<=c;rw [hnx];exact hc⟩,by show R.cs.length - (i+1)<R.cs.length - i;omega,?_⟩
   simp only [hnx]
   exact Ent.mk' ⟨rfl,rfl,rfl,rfl,rfl,rfl,trivial⟩ rfl (fun β w' hs=>(hs.keepB (List.nil_sublist _)).lower)
  ·have hne0: ¬y.tenant=t:=hne
   rw [if_neg hne0] at hnx
   have hl2:(out (i+1)).length=(out i).length+1:=by rw [hnx,List.length_append];rfl
   have hol1:=hol (i+1)
   intro b2
   refine ⟨1,(out i).length,(out (i+1)).length,(out i).flatMap Crd.vs,y.vs,(out (i+1)).flatMap Crd.vs,rfl,fun β w hs=>z_an (hs.get 0 rfl),z_jM y,by rw [hl2],by rw [hnx];simp,by omega,by show (out (i+1)).length*176<=_;omega,?_⟩
   intro A' c' q1 q2 q3
   refine ⟨((i+1:Nat):Int),by rw [wrap_i64 (by omega) (by omega)];rfl,?_⟩
   exact ⟨⟨i+1,A',c'⟩,⟨by show i+1<=R.cs.length;omega,q1⟩,by show R.cs.length - (i+1)<R.cs.length - i;omega,Ent.mk' ⟨rfl,rfl,rfl,rfl,rfl,rfl,trivial⟩ rfl (fun β w' hs=>((hs.keepB (List.nil_sublist _)).perm [1,2]).lower)⟩
 ·have hge0: ¬(i:Int)<R.cs.length:=hge
  have hfin:out i=outT R.cs t:=by rw [hout,List.take_of_length_le (by omega)]
  rw [hfin] at hc ⊢
  refine ⟨[rsF {R1 with lA:=A,lc:=c,cs:=outT R.cs t}],fun β w' hs=>by rw [<-hb1];exact hs.rsLs,?_⟩
  intro β w' hs
  refine hs.fin [0] ⟨{R1 with lA:=A,lc:=c,cs:=outT R.cs t},by rw [hr];rfl,?_,hb1,by rw [<-hR1];exact hc1,hc,by rw [<-hR1];exact fun x hx=>hw.mem x (List.mem_filter.1 hx).1,by rw [<-hR1];exact fun _ h=>h,rfl⟩
  rw [hr,<-hR1]
  show RA.mk _ ((outT R.cs t).map Crd.a) _ _=_
  rw [z_yt]
  rfl
def inTs (cs:List Crd) (t:ByteArray):List Crd:=cs.filter fun c=>decide (c.tenant=t)
def inTA (cs:List ACrd) (t:ByteArray):List ACrd:=cs.filter fun c=>decide (c.tenant=t)
theorem z_wI (cs:List Crd) (t:ByteArray):(inTs cs t).map Crd.a=inTA (cs.map Crd.a) t:=by
 unfold inTs inTA
 rw [List.filter_map]
 rfl
theorem z_vD (cs:List Crd) (t:ByteArray):(inTs cs t).length=(inTA (cs.map Crd.a) t).length:=by rw [<-z_wI,List.length_map]
theorem Con.none {P:Program} {f:FuncId} {args:Array Value} {w:World} {Gs:List Fact} {R R':Value->List Fact->Prop} (h:Con P f args w Gs R) (hr: ∀v Fs,R v Fs->R' v []):Con P f args w Gs R':=by
 refine Calls.mono h ?_
 rintro e w' ⟨v,rfl,Fs,h1,h2,_⟩
 exact ⟨v,rfl,[],hr v Fs h1,h2,Mem.none _,trivial,fun _ h=>by cases h⟩
set_option maxHeartbeats 1000000 in
theorem z_pQ (w:World) (R:RS) (t:ByteArray) (h:(rsF R).p w) (hl: ∀k,(rsF R).D k->k<w.heap.size) (hn:R.cs.length<=1000):
  Con Tryz.prog z_bJ #[ptr R.b,.string t] w [] fun v Fs=> ∃A c,v= .slice A (inTs R.cs t).length c/\(0<(inTs R.cs t).length-> ∃ad,A=some ad)/\Fs=[crowF A (inTs R.cs t) c]:=by
 have g:=z_gE w (Un [])
 have hml:=maxLen_eq
 refine z_ac (cx:=z_dk w (Un [])) g z_iX rfl rfl (β:=Va.z) [.c (.v (ptr R.b)),.c (.v (.string t))] 0 [] [oldF w] rfl rfl (z_ay rfl) ?_
 have ho: ∀w',(oldF w).p w'->(rsF R).p w':=fun w' h2=>z_bt h hl h2
 refine ⟨.slice R.lA R.cs.length R.lc,fun β w' hs=>bkc (rs_bk (ho w' (hs.get 0 rfl))) rfl,?_⟩
 obtain ⟨out,hout⟩: ∃out:Nat->List Crd,∀i,out i=inTs (R.cs.take i) t:=⟨fun i=>_,fun i=>rfl⟩
 have hol: ∀i,(out i).length<=1000:=fun i=>by
  rw [hout]
  exact Nat.le_trans (List.length_filter_le _ _) (by rw [List.length_take];omega)
 have h00:out 0=[]:=by rw [hout];rfl
 refine z_ai (ι:=WoJ) 0 (fun j=>[(1,.c (.v (.string t))),(5,.c (.v (.slice j.A (out j.i).length j.c))),(13,.c (.v (.slice R.lA R.cs.length R.lc))),(14,.c (.v (.int .i64 (R.cs.length:Int)))),(15,.c (.v (.int .i64 (j.i:Int))))]) (fun _=>[]) (fun j=>[crowF j.A (out j.i) j.c,oldF w])
  (fun j=>j.i<=R.cs.length/\(out j.i).length<=j.c) (fun j=>R.cs.length - j.i) ⟨0,none,0⟩ ⟨Nat.zero_le _,by rw [h00];exact Nat.le_refl _⟩ (Ent.mk' ⟨rfl,by show some (SV.c (.v (.slice none 0 0)))=some (SV.c (.v (.slice none (out 0).length 0)));rw [h00];rfl,rfl,rfl,rfl,trivial⟩ rfl (fun β w' hs=>by
   have h:=hs.nilRow z_af 10
   simp only [h00]
   exact h)) g ?_
 rintro ⟨i,A,c⟩ ⟨hi,hc⟩
 simp only at hi hc
 refine BIf.dec (fun hlt=>?_) (fun hge=>?_)
 ·have hlt0:(i:Int)<R.cs.length:=hlt
  obtain ⟨y,hy,hym⟩:=at_lt (show i<R.cs.length by omega)
  obtain ⟨ad,hA,_⟩:=(rs_rd h).2 (by omega)
  refine ⟨ad,i,hA,rfl,by omega,y.vs,rfl,fun β w' hs=>z_kL (rs_rd (ho w' (hs.get 1 rfl))) hA hy,?_⟩
  have hnx:out (i+1)=out i++(if y.tenant=t then [y] else []):=by
   rw [hout,hout]
   unfold inTs
   rw [List.take_add_one,hy,List.filter_append]
   by_cases q:y.tenant=t<;>simp [q]
  refine BIf.dec (fun heq=>?_) (fun hne=>?_)
  ·have heq0:y.tenant=t:=heq
   rw [if_pos heq0] at hnx
   have hl2:(out (i+1)).length=(out i).length+1:=by rw [hnx,List.length_append];rfl
   have hol1:=hol (i+1)
   intro b2
   refine ⟨1,(out i).length,(out (i+1)).length,(out i).flatMap Crd.vs,y.vs,(out (i+1)).flatMap Crd.vs,rfl,fun β w hs=>z_an (hs.get 0 rfl),z_jM y,by rw [hl2],by rw [hnx];simp,by omega,by show (out (i+1)).length*176<=_;omega,?_⟩
   intro A' c' q1 q2 q3
   refine ⟨((i+1:Nat):Int),by rw [wrap_i64 (by omega) (by omega)];rfl,?_⟩
   exact ⟨⟨i+1,A',c'⟩,⟨by show i+1<=R.cs.length;omega,q1⟩,by show R.cs.length - (i+1)<R.cs.length - i;omega,Ent.mk' ⟨rfl,rfl,rfl,rfl,rfl,trivial⟩ rfl (fun β w' hs=>((hs.keepB (List.nil_sublist _)).perm [1,2]).lower)⟩
  ·have hne0: ¬y.tenant=t:=hne
   rw [if_neg hne0,List.append_nil] at hnx
   refine ⟨((i+1:Nat):Int),by rw [wrap_i64 (by omega) (by omega)];rfl,?_⟩
   refine ⟨⟨i+1,A,c⟩,⟨by show i+1<=R.cs.length;omega,by show (out (i+1)).length<=c;rw [hnx];exact hc⟩,by show R.cs.length - (i+1)<R.cs.length - i;omega,?_⟩
   simp only [hnx]
   exact Ent.mk' ⟨rfl,rfl,rfl,rfl,rfl,trivial⟩ rfl (fun β w' hs=>(hs.keepB (List.nil_sublist _)).lower)
 ·have hge0: ¬(i:Int)<R.cs.length:=hge
  have hfin:out i=inTs R.cs t:=by rw [hout,List.take_of_length_le (by omega)]
  rw [hfin] at hc ⊢
  intro β w' hs
  refine hs.fin [0] ⟨A,c,rfl,fun h0=>?_,rfl⟩
  obtain ⟨ad,e,_⟩:=(z_an (hs.get 0 rfl)).2 h0
  exact ⟨ad,e⟩
theorem z_rb (w:World) (R:RS) (t:ByteArray) (h:(rsF R).p w) (hl: ∀k,(rsF R).D k->k<w.heap.size) (hn:R.cs.length<=1000):
  Con Tryz.prog z_bJ #[ptr R.b,.string t] w [] fun v Fs=> ∃A c,v= .slice A (inTs R.cs t).length c/\Fs=[]:=
 (z_pQ w R t h hl hn).none fun v Fs ⟨A,c,e,_⟩=>⟨A,c,e,rfl⟩
theorem Sat.rsLast {cx:Cx} {β:Va} {n:Nat} {H:List Bk} {w:World} {R:RS} {F:List Fact} (h:Sat cx β n H (rsF R::F) w) (m:Nat) {y:Int} (hy:(m:Int)=y):
  ∃w',(storeCells ((⟨R.b,0,none⟩:Addr).add 2) [.int .u64 y] 0).run cx.P w= .ok () w'/\Sat cx β n H (rsF {R with last:=m}::F) w':=by
 subst hy
 obtain ⟨w2,e1,e2⟩:=(h.unsep 0 rfl).bkSet 0 (o:=2) (us:=[.int .u64 (m:Int)]) rfl (by show 3<=4;decide) (fun u hu=>by obtain rfl:=List.mem_singleton.1 hu;rfl)
 refine ⟨w2,e1,?_⟩
 have h2:=e2.sep [0,1,2,3] rfl ⟨rfl,rfl,rfl,rfl,trivial⟩
 have e0:dropIx [0] 1 F=F:=z_aD (by decide)
 have e3:dropIx [0,1,2,3] 4 F=F:=z_aD (by decide)
 refine h2.weaken (List.Sublist.refl _) ?_
 show List.Sublist _ (_::dropIx [0,1,2,3] 4 (dropIx [0] 1 F))
 rw [e0,e3]
 exact List.Sublist.refl _
def raiseTR (X:RA) (n:Nat):Int×RA:=if greatN<n then (4,X) else (0,{X with last:=max X.last n})
theorem z_wg (w:World) (R:RS) (n:Nat) (hw:R.Wf) (hm:Mem w [rsF R]):Con Tryz.prog z_dH #[ptr R.b,.int .u64 (n:Int)] w [rsF R] (rsOut R (raiseTR R.a n)):=by
 have g:=z_gi w (Un [rsF R])
 obtain ⟨x,hx⟩: ∃x:Int,(n:Int)=x:=⟨_,rfl⟩
 rw [hx]
 refine z_ac (cx:=z_dj w (Un [rsF R])) g z_i0 rfl rfl (β:=Va.z) [.c (.v (ptr R.b)),.c (.v (.int .u64 x))] 0 [] [rsF R] rfl rfl (hm.sat0 rfl (fun f hf _ k hk=>⟨f,hf,hk⟩)) ?_
 refine BIf.dec (fun hg=>?_) (fun hg=>?_)
 ·have hg0:(9007199254740992:Int)<x:=hg
  intro β w' hs
  exact hs.fin [0] (z_ar hw (by unfold raiseTR;rw [if_pos (by unfold greatN;omega)]))
 ·have hg0: ¬(9007199254740992:Int)<x:=hg
  obtain ⟨y,hy⟩: ∃y:Int,((max R.last n:Nat):Int)=y:=⟨_,rfl⟩
  refine ⟨.int .u64 (R.last:Int),fun β w' hs=>bkc (rs_bk (hs.get 0 rfl)) rfl,?_⟩
  refine ⟨y,by show max (R.last:Int) x=y;rw [<-hy,<-hx];omega,?_⟩
  refine ⟨[rsF {R with last:=max R.last n}],fun β w' hs=>hs.rsLast _ hy,?_⟩
  have hr:raiseTR R.a n=(0,{R.a with last:=max R.last n}):=by unfold raiseTR;rw [if_neg (by unfold greatN;omega)];rfl
  intro β w' hs
  exact hs.fin [0] ⟨{R with last:=max R.last n},by rw [hr];rfl,by rw [hr];rfl,rfl,hw.tc,hw.lc,hw.mem,fun _ h=>h,rfl⟩
theorem z_u6 (cs:List Crd) {i:Nat} (h:i<cs.length) (c:Crd):putAll (cs.flatMap Crd.vs) (i*10) c.vs=(cs.set i c).flatMap Crd.vs:=by
 rw [z_cR _ _ _ (by rw [z_vl,z_gs];omega),z_nw,z_gs,show i*10+10=(i+1)*10 by omega,z_nK,List.set_eq_take_append_cons_drop,if_pos h,List.flatMap_append,List.flatMap_cons,List.append_assoc]
theorem z_tU {w:World} {ad:Addr} {cs:List Crd} {c:Nat} (h:(crowF (some ad) cs c).p w): ∃b,ad=⟨b,0,none⟩:=by
 have hp:w.ownsRow 0 z_af 10 (.slice (some ad) cs.length c) cs.length (cs.flatMap Crd.vs):=h
 rcases hp.2 with ⟨q,_⟩ | ⟨g,cap,cur,hv,_⟩
 ·cases q
 ·injection hv with h1 h2 h3
  injection h1 with h1
  exact ⟨g,h1⟩
def setTR (X:RA) (i:Nat) (c:ACrd):Int×RA:=if greatN<=X.last then (8,X) else (0,{X with cs:=X.cs.set i {c with gen:=X.last+1},last:=X.last+1})
set_option maxHeartbeats 1000000 in
theorem z_wA (w:World) (R:RS) (i:Nat) (c:Crd) (hw:R.Wf) (hi:i<R.cs.length) (hc:inP R.ps c) (hm:Mem w [rsF R]):
  Con Tryz.prog z_cj #[ptr R.b,.int .i64 (i:Int),.agg c.vs.toArray] w [rsF R] (rsOut R (setTR R.a i c.a)):=by
 have g:=z_ij w (Un [rsF R])
 have hln:=hw.ln
 have hml:=maxLen_eq
 refine z_ac (cx:=z_eH w (Un [rsF R])) g z_kI rfl rfl (β:=Va.z) [.c (.v (ptr R.b)),.c (.v (.int .i64 (i:Int))),.agg c.ss] 0 [] [rsF R] rfl rfl (hm.sat0 rfl (fun f hf _ k hk=>⟨f,hf,hk⟩)) ?_
 obtain ⟨x,hx⟩: ∃x:Int,(R.last:Int)=x:=⟨_,rfl⟩
 refine ⟨.int .u64 x,fun β w' hs=>by rw [<-hx];exact bkc (rs_bk (hs.get 0 rfl)) rfl,?_⟩
 refine BIf.dec (fun hg=>?_) (fun hg=>?_)
 ·have hg0:(9007199254740992:Int)<=x:=hg
  intro β w' hs
  exact (hs.keepB (List.nil_sublist _)).fin [0] (z_ar hw (by unfold setTR;rw [if_pos (show greatN<=R.a.last by show greatN<=R.last;unfold greatN;omega)]))
 have hg0: ¬(9007199254740992:Int)<=x:=hg
 refine ⟨.int .u64 x,fun β w' hs=>by rw [<-hx];exact bkc (rs_bk (hs.get 0 rfl)) rfl,?_⟩
 refine ⟨((R.last+1:Nat):Int),by rw [wrap_u64,<-hx];omega,?_⟩
 refine ⟨[rsF {R with last:=R.last+1}],fun β w' hs=>hs.rsLast _ rfl,?_⟩
 refine ⟨.int .u64 ((R.last+1:Nat):Int),fun β w' hs=>bkc (rs_bk (hs.get 0 rfl)) rfl,?_⟩
 intro b1
 refine ⟨.slice R.lA R.cs.length R.lc,fun β w' hs=>bkc (rs_bk (R:= {R with last:=R.last+1}) (hs.get 1 rfl)) rfl,?_⟩
 refine ⟨0,0,R.cs.length,[],R.cs.flatMap Crd.vs,R.cs.flatMap Crd.vs,rfl,fun β w' hs=>rs_rd (R:= {R with last:=R.last+1}) (hs.get 1 rfl),z_d3 R.cs,Nat.zero_add _,rfl,by omega,by show R.cs.length*176<=_;omega,?_⟩
 intro A1 c1 p1 p2 p3
 refine ⟨[bkF R.b z_au [.slice R.tA R.ts.length R.tc,.slice A1 R.cs.length c1,.int .u64 ((R.last+1:Nat):Int),.int .u64 R.reads],strsF R.tA R.ts,crowF A1 R.cs c1,poF R.ps],fun β w' hs=>by
  obtain ⟨w2,e1,e2⟩:=hs.rsLs
  refine ⟨w2,e1,?_⟩
  exact e2.unsep 0 rfl,?_⟩
 refine z_aj g z_iG (by kernel_rfl) [⟨0,z_af,(Crd.ss {c with gen:=R.last+1})⟩] [bkF R.b z_au [.slice R.tA R.ts.length R.tc,.slice A1 R.cs.length c1,.int .u64 ((R.last+1:Nat):Int),.int .u64 R.reads],strsF R.tA R.ts,poF R.ps] (subPerm [0,1,3]) ?_
 refine ⟨.slice A1 R.cs.length c1,fun β w' hs=>bkc (hs.get 0 rfl) rfl,?_⟩
 obtain ⟨ad,rfl⟩: ∃ad,A1=some ad:=by
  cases A1 with
  | none=>cases (p3 rfl).1
  | some ad=>exact ⟨ad,rfl⟩
 obtain ⟨d,hd⟩: ∃d:Crd,{c with gen:=R.last+1}=d:=⟨_,rfl⟩
 have hdv:d.ss=Crd.ss {c with gen:=R.last+1}:=by rw [<-hd]
 have hsl:(R.cs.set i d).length=R.cs.length:=List.length_set
 refine ⟨ad,i,rfl,rfl,hi,?_⟩
 refine ⟨[bkF R.b z_au [.slice R.tA R.ts.length R.tc,.slice (some ad) R.cs.length c1,.int .u64 ((R.last+1:Nat):Int),.int .u64 R.reads],strsF R.tA R.ts,rowF z_af 10 (.slice (some ad) R.cs.length c1) R.cs.length ((R.cs.set i d).flatMap Crd.vs),poF R.ps],fun β w' hs=>?_,?_⟩
 ·obtain ⟨b,rfl⟩:=z_tU (hs.get 2 rfl)
  have h2:=hs.rowSet (j:=2) (o:=i*10) (us:=d.vs) rfl (by rw [z_gs];omega) (z_jM d)
  rw [z_u6 R.cs hi d] at h2
  rw [<-hd] at h2 ⊢
  exact h2
 refine ⟨subPerm [0,1,3],?_⟩
 have hr:setTR R.a i c.a=(0,{R.a with cs:=R.a.cs.set i {c.a with gen:=R.last+1},last:=R.last+1}):=by unfold setTR;rw [if_neg (show¬greatN<=R.a.last by show¬greatN<=R.last;unfold greatN;omega)];rfl
 intro β w' hs
 rw [<-hsl] at hs
 refine ((hs.keepB (List.nil_sublist _)).sep [0,1,2,3] rfl ⟨rfl,rfl,rfl,rfl,trivial⟩).fin [0] ⟨{R with lA:=some ad,lc:=c1,cs:=R.cs.set i d,last:=R.last+1},by rw [hr];rfl,?_,rfl,hw.tc,by show (R.cs.set i d).length<=c1;rw [hsl];exact p1,fun z hz=>?_,fun _ h=>h,rfl⟩
 ·rw [hr]
  show RA.mk _ ((R.cs.set i d).map Crd.a) _ _=_
  rw [List.map_set,<-hd]
  rfl
 ·rcases List.mem_or_eq_of_mem_set hz with h | h
  ·exact hw.mem z h
  ·rw [h,<-hd]
   exact hc
def fndR (cs:List ACrd) (t u:ByteArray):Option Nat:=if (nameA u).2=0 then cs.findIdx? (fun c=>decide (c.tenant=t)&&decide (c.user=(nameA u).1)) else none
def oneR (cs:List ACrd) (t u:ByteArray):Option (Nat×ACrd):=match fndR cs t u with
 | none=>none
 | some k=>match cs[k]? with
  | none=>none
  | some c=>some (k,c)
theorem FindR.one {cs:List Crd} {t u:ByteArray} {i:Int} (h:FindR cs t u i):(i= -1/\oneR (cs.map Crd.a) t u=none)\/ ∃(k:Nat) (c:Crd),i=(k:Int)/\cs[k]?=some c/\oneR (cs.map Crd.a) t u=some (k,c.a):=by
 rcases h with ⟨hi,hn⟩ | ⟨k,c,hi,hc,hU,hpre⟩
 ·refine .inl ⟨hi,?_⟩
  unfold oneR fndR
  by_cases he:(nameA u).2=0
  ·rw [if_pos he]
   have:(cs.map Crd.a).findIdx? (fun c=>decide (c.tenant=t)&&decide (c.user=(nameA u).1))=none:=by
    rw [List.findIdx?_eq_none_iff]
    intro x hx
    obtain ⟨c,hc,rfl⟩:=List.mem_map.1 hx
    rw [Bool.eq_false_iff]
    intro q
    rw [Bool.and_eq_true] at q
    exact hn c hc ⟨he,of_decide_eq_true q.1,of_decide_eq_true q.2⟩
   rw [this]
  ·rw [if_neg he]
 ·refine .inr ⟨k,c,hi,hc,?_⟩
  obtain ⟨hkl,hke⟩:=List.getElem?_eq_some_iff.1 hc
  have hf:fndR (cs.map Crd.a) t u=some k:=by
   unfold fndR
   rw [if_pos hU.1,List.findIdx?_eq_some_iff_getElem]
   refine ⟨by rw [List.length_map];exact hkl,?_,fun j hj=>?_⟩
   ·rw [List.getElem_map,hke]
    show (decide (c.tenant=t)&&decide (c.user=(nameA u).1))=true
    rw [hU.2.1,hU.2.2]
    simp
   ·rw [List.getElem_map]
    intro q
    rw [Bool.and_eq_true] at q
    exact hpre _ (List.mem_take_iff_getElem.2 ⟨j,by omega,rfl⟩) ⟨hU.1,of_decide_eq_true q.1,of_decide_eq_true q.2⟩
  unfold oneR
  rw [hf]
  show (match (cs.map Crd.a)[k]? with | none=>none | some c=>some (k,c))=some (k,c.a)
  rw [List.getElem?_map,hc]
  rfl
theorem z_rI (w:World) (R:RS) (t u:ByteArray) (h:(rsF R).p w) (hl: ∀k,(rsF R).D k->k<w.heap.size) (hu:u.size<=100000) (hn:R.cs.length<=1000000):
  Con Tryz.prog z_b6 #[ptr R.b,.string t,.string u] w [] fun v Fs=> ∃i:Int,v= .int .i64 i/\((i= -1/\oneR R.a.cs t u=none)\/ ∃(k:Nat) (c:Crd),i=(k:Int)/\R.cs[k]?=some c/\oneR R.a.cs t u=some (k,c.a))/\Fs=[]:=
 (z_xF w R t u h hl hu hn).mono fun v Fs h=>by
  obtain ⟨i,hv,hf,hF⟩:=h
  exact ⟨i,hv,hf.one,hF⟩
theorem z_vN (w:World) (y:Sec):Pu Tryz.prog z_bQ #[.agg y.vs.toArray] w (.bool (rightA y.a)):=by
 have h:=z_xY w ⟨y.salt.A,y.stored.A,y.server.A,y.ha1.A,y.salt.c,y.stored.c,y.server.c,y.ha1.c,y.salt.l,y.stored.l,y.server.l,y.ha1.l,y.iter⟩
 have e:decide ((0<y.salt.l.length/\y.salt.l.length<=32/\0<y.iter/\y.iter<=64)/\y.stored.l.length=32/\y.server.l.length=32/\y.ha1.l.length=32)=rightA y.a:=by
  unfold rightA saltedA
  show _=(decide (1<=y.salt.l.length)&&(decide (y.salt.l.length<=32)&&(decide (1<=y.iter)&&decide (y.iter<=64)))&&(decide (y.stored.l.length=32)&&(decide (y.server.l.length=32)&&decide (y.ha1.l.length=32))))
  rw [Bool.eq_iff_iff]
  simp only [decide_eq_true_eq,Bool.and_eq_true]
  constructor
  ·rintro ⟨⟨a,b,c,d⟩,e⟩
   exact ⟨⟨by omega,b,by omega,d⟩,e⟩
  ·rintro ⟨⟨a,b,c,d⟩,e⟩
   exact ⟨⟨by omega,b,by omega,d⟩,e⟩
 rw [<-e]
 exact h
def revR (X:RA) (t u:ByteArray) (on:Bool):Int×RA:=match oneR X.cs t u with
 | none=>(6,X)
 | some (k,c)=>setTR X k {c with revoked:=on}
set_option maxHeartbeats 1000000 in
theorem z_sO (w:World) (R:RS) (t u:ByteArray) (on:Bool) (hw:R.Wf) (hu:u.size<=100000) (hm:Mem w [rsF R]):Con Tryz.prog z_dh #[ptr R.b,.string t,.string u,.bool on] w [rsF R] (rsOut R (revR R.a t u on)):=by
 have g:=z_fG w (Un [rsF R])
 have hln:=hw.ln
 refine z_ac (cx:=z_cy w (Un [rsF R])) g z_hG rfl rfl (β:=Va.z) [.c (.v (ptr R.b)),.c (.v (.string t)),.c (.v (.string u)),.c (.v (.bool on))] 0 [] [rsF R] rfl rfl (hm.sat0 rfl (fun f hf _ k hk=>⟨f,hf,hk⟩)) ?_
 refine z_aa [] (fun β w' hs=>z_rI w' R t u (hs.get 0 rfl) (hs.getLt 0 rfl) hu (by omega)) ?_
 rintro v Fs ⟨i,rfl,hf,rfl⟩
 refine BIf.dec (fun hneg=>?_) (fun hpos=>?_)
 ·have hneg0:i<0:=hneg
  have hr:revR R.a t u on=(6,R.a):=by
   unfold revR
   rcases hf with ⟨_,h⟩ | ⟨k,c,rfl,_,_⟩
   ·rw [h]
   ·exfalso;omega
  intro β w' hs
  exact hs.fin [0] (z_ar hw hr)
 have hpos0: ¬i<0:=hpos
 obtain ⟨k,c,rfl,hc,h1⟩: ∃(k:Nat) (c:Crd),i=(k:Int)/\R.cs[k]?=some c/\oneR R.a.cs t u=some (k,c.a):=by
  rcases hf with ⟨h,_⟩ | h
  ·exfalso;omega
  ·exact h
 have hr:revR R.a t u on=setTR R.a k {c.a with revoked:=on}:=by unfold revR;rw [h1]
 obtain ⟨hkl,_⟩:=List.getElem?_eq_some_iff.1 hc
 obtain ⟨ad,hA,_⟩:=(rs_rd (hm.fact (rsF R) (by simp))).2 (by omega)
 refine ⟨.slice R.lA R.cs.length R.lc,fun β w' hs=>bkc (rs_bk (hs.get 0 rfl)) rfl,?_⟩
 refine ⟨ad,k,hA,rfl,hkl,c.vs,rfl,fun β w' hs=>z_kL (rs_rd (hs.get 0 rfl)) hA hc,?_⟩
 refine z_aa [0] (fun β w' hs=>z_wA w' R k {c with revoked:=on} hw hkl (hw.mem c (List.mem_of_getElem? hc)) (hs.mem.take (js:=[0]) rfl)) ?_
 rintro v Fs ⟨R',rfl,h2,h3,h4,h5,h6,h7,rfl⟩
 intro β w' hs
 exact (hs.keepB (List.nil_sublist _)).fin [0] ⟨R',by rw [hr];rfl,by rw [hr];exact h2,h3,h4,h5,h6,h7,rfl⟩
def dropR (X:RA) (t u:ByteArray):Int×RA:=match oneR X.cs t u with
 | none=>(6,X)
 | some (k,_)=>(0,{X with cs:=X.cs.take k++X.cs.drop (k+1)})
set_option maxHeartbeats 1000000 in
theorem z_xl (w:World) (R:RS) (t u:ByteArray) (hw:R.Wf) (hu:u.size<=100000) (hm:Mem w [rsF R]):Con Tryz.prog z_eF #[ptr R.b,.string t,.string u] w [rsF R] (rsOut R (dropR R.a t u)):=by
 have g:=z_he w (Un [rsF R])
 have hln:=hw.ln
 refine z_ac (cx:=z_dU w (Un [rsF R])) g z_jO rfl rfl (β:=Va.z) [.c (.v (ptr R.b)),.c (.v (.string t)),.c (.v (.string u))] 0 [] [rsF R] rfl rfl (hm.sat0 rfl (fun f hf _ k hk=>⟨f,hf,hk⟩)) ?_
 refine z_aa [] (fun β w' hs=>z_rI w' R t u (hs.get 0 rfl) (hs.getLt 0 rfl) hu (by omega)) ?_
 rintro v Fs ⟨i,rfl,hf,rfl⟩
 refine BIf.dec (fun hneg=>?_) (fun hpos=>?_)
 ·have hneg0:i<0:=hneg
  have hr:dropR R.a t u=(6,R.a):=by
   unfold dropR
   rcases hf with ⟨_,h⟩ | ⟨k,c,rfl,_,_⟩
   ·rw [h]
   ·exfalso;omega
  intro β w' hs
  exact hs.fin [0] (z_ar hw hr)
 have hpos0: ¬i<0:=hpos
 obtain ⟨k,c,rfl,hc,h1⟩: ∃(k:Nat) (c:Crd),i=(k:Int)/\R.cs[k]?=some c/\oneR R.a.cs t u=some (k,c.a):=by
  rcases hf with ⟨h,_⟩ | h
  ·exfalso;omega
  ·exact h
 have hr:dropR R.a t u=(0,{R.a with cs:=R.a.cs.take k++R.a.cs.drop (k+1)}):=by unfold dropR;rw [h1]
 obtain ⟨hkl,_⟩:=List.getElem?_eq_some_iff.1 hc
 have hml:=maxLen_eq
 have hlc:=hw.lc
 have hlen:(R.cs.take k++R.cs.drop (k+1)).length=R.cs.length - 1:=by rw [List.length_append,List.length_take,List.length_drop];omega
 have hA1: ∀w',(rsF R).p w'->Rd 10 (cutA R.lA R.lc 0 10) k ((R.cs.take k).flatMap Crd.vs) w':=fun w' h=>by
  have h2:=z_mp (rs_rd h) hlc (Nat.zero_le k) (by omega)
  rw [Nat.sub_zero,List.drop_zero] at h2
  exact h2
 have hA2: ∀w',(rsF R).p w'->Rd 10 (cutA R.lA R.lc (k+1) 10) (R.cs.length - (k+1)) ((R.cs.drop (k+1)).flatMap Crd.vs) w':=fun w' h=>by
  have h2:=z_mp (rs_rd h) hlc (show k+1<=R.cs.length by omega) (Nat.le_refl _)
  rw [List.take_of_length_le (by rw [List.length_drop];omega)] at h2
  exact h2
 refine z_aj g z_hz (by kernel_rfl) [] [rsF R] (subPerm [0]) ?_
 refine ⟨.slice R.lA R.cs.length R.lc,fun β w' hs=>bkc (rs_bk (hs.get 0 rfl)) rfl,?_⟩
 refine ⟨R.lc,k,0,k,R.lc,_,rfl,rfl,rfl,Nat.le_refl _,by omega,Nat.zero_le _,rfl,rfl,rfl,?_⟩
 refine ⟨.slice R.lA R.cs.length R.lc,fun β w' hs=>bkc (rs_bk (hs.get 0 rfl)) rfl,?_⟩
 refine ⟨((k+1:Nat):Int),by rw [wrap_i64 (by omega) (by omega)];rfl,?_⟩
 refine ⟨R.lc,R.cs.length,k+1,R.cs.length - (k+1),R.lc - (k+1),_,rfl,rfl,rfl,Nat.le_refl _,by omega,by omega,rfl,rfl,rfl,?_⟩
 intro b0
 refine ⟨subPerm [1],?_⟩
 refine ⟨0,0,k,[],(R.cs.take k).flatMap Crd.vs,(R.cs.take k).flatMap Crd.vs,rfl,fun β w' hs=>hA1 w' (hs.get 1 rfl),z_d3 _,Nat.zero_add _,rfl,by omega,by show k*176<=_;omega,?_⟩
 intro A1 c1 p1 _ _
 refine ⟨subPerm [1],?_⟩
 refine ⟨0,k,R.cs.length - 1,(R.cs.take k).flatMap Crd.vs,(R.cs.drop (k+1)).flatMap Crd.vs,(R.cs.take k++R.cs.drop (k+1)).flatMap Crd.vs,rfl,fun β w' hs=>hA2 w' (hs.get 1 rfl),z_d3 _,by omega,by rw [List.flatMap_append],by omega,by show (R.cs.length - 1)*176<=_;omega,?_⟩
 intro A2 c2 p2 _ _
 refine ⟨subPerm [1],?_⟩
 refine ⟨subPerm [1],?_⟩
 refine ⟨[rsF {R with lA:=A2,lc:=c2,cs:=R.cs.take k++R.cs.drop (k+1)}],fun β w' hs=>?_,?_⟩
 ·rw [<-hlen] at hs ⊢
  exact hs.rsLs
 intro β w' hs
 refine hs.fin [0] ⟨{R with lA:=A2,lc:=c2,cs:=R.cs.take k++R.cs.drop (k+1)},by rw [hr];rfl,?_,rfl,hw.tc,by rw [<-hlen] at p2;exact p2,fun z hz=>hw.mem z ?_,fun _ h=>h,rfl⟩
 ·rw [hr]
  show RA.mk _ ((R.cs.take k++R.cs.drop (k+1)).map Crd.a) _ _=_
  rw [List.map_append,List.map_take,List.map_drop]
  rfl
 ·rcases List.mem_append.1 hz with h | h
  ·exact List.mem_of_mem_take h
  ·exact List.mem_of_mem_drop h
theorem Con.gs {P:Program} {f:FuncId} {args:Array Value} {w:World} {Gs Gs':List Fact} {R:Value->List Fact->Prop} (h:Con P f args w Gs R) (hG: ∀k,Un Gs k->Un Gs' k):Con P f args w Gs' R:=
 Calls.mono h fun _ _ ⟨v,he,Fs,h1,h2,h3,h4,h5⟩=>⟨v,he,Fs,h1,Chg.mono h2 (fun i _ q=>hG i q),h3,h4,fun f hf k hk=>(h5 f hf k hk).imp (hG k) id⟩
theorem Sat.rsPool {cx:Cx} {β:Va} {n:Nat} {H:List Bk} {w:World} {R:RS} {r g:Fact} {F:List Fact} (h:Sat cx β n H (r::rsF R::F) w) (hr:r.own=true) (hp: ∀w,r.p w->g.p w) (hD: ∀k,g.D k->r.D k):
  Sat cx β n H (rsF {R with ps:=g::R.ps}::F) w:=by
 have h1:=h.unsep 1 rfl
 have h2:=h1.fuse [3,4] (poF (g::R.ps)) (fun w hm f hf=>by
  rcases List.mem_cons.1 hf with rfl | hf
  ·exact hp w (hm.fact r (by show r∈[poF R.ps,r];simp))
  ·exact (show (poF R.ps).p w from hm.fact (poF R.ps) (by show poF R.ps∈[poF R.ps,r];simp)) f hf) (fun k hk=>by
  obtain ⟨f,hf,hk⟩:=hk
  rcases List.mem_cons.1 hf with rfl | hf
  ·exact ⟨r,by show r∈[poF R.ps,r];simp,hD k hk⟩
  ·exact ⟨poF R.ps,by show poF R.ps∈[poF R.ps,r];simp,f,hf,hk⟩) rfl ⟨rfl,hr,trivial⟩
 have h3:=h2.sep [1,2,3,0] rfl ⟨rfl,rfl,rfl,rfl,trivial⟩
 have e0:dropIx [1] 2 F=F:=z_aD (by decide)
 have e1:dropIx [3,4] 5 F=F:=z_aD (by decide)
 have e2:dropIx [1,2,3,0] 4 F=F:=z_aD (by decide)
 refine h3.weaken (List.Sublist.refl _) ?_
 show List.Sublist _ (_::dropIx [1,2,3,0] 4 (dropIx [3,4] 5 (dropIx [1] 2 F)))
 rw [e0,e1,e2]
 exact List.Sublist.refl _
theorem z_vE {R:RS} {r g:Fact} (hD: ∀k,g.D k->r.D k): ∀k,Un [rsF {R with ps:=g::R.ps}] k->Un [r,rsF R] k:=by
 rintro k ⟨f,hf,hk⟩
 obtain rfl:=List.mem_singleton.1 hf
 obtain ⟨f2,hf2,hk2⟩:=hk
 simp only [RS.fs,List.mem_cons,List.not_mem_nil,or_false] at hf2
 have hin: ∀f∈R.fs,f.D k->Un [r,rsF R] k:=fun f hf hk=>⟨rsF R,by simp,f,hf,hk⟩
 rcases hf2 with rfl | rfl | rfl | rfl
 ·exact hin (bkF R.b z_au R.vs) (by simp [RS.fs]) hk2
 ·exact hin (strsF R.tA R.ts) (by simp [RS.fs]) hk2
 ·exact hin (crowF R.lA R.cs R.lc) (by simp [RS.fs]) hk2
 ·obtain ⟨f3,hf3,hk3⟩:=hk2
  rcases List.mem_cons.1 hf3 with rfl | hf3
  ·exact ⟨r,by simp,hD k hk3⟩
  ·exact hin (poF R.ps) (by simp [RS.fs]) ⟨f3,hf3,hk3⟩
theorem RS.Wf.pool {R:RS} (hw:R.Wf) (g:Fact):RS.Wf {R with ps:=g::R.ps}:=
 ⟨hw.tc,hw.lc,hw.tn,hw.ln,hw.ris,fun c hc=>⟨List.mem_cons_of_mem _ (hw.mem c hc).1,List.mem_cons_of_mem _ (hw.mem c hc).2.1,(hw.mem c hc).2.2⟩,hw.ro⟩
theorem z_s8 {cx:Cx} {β:Va} {n:Nat} {H:List Bk} {w:World} (R:RS) (k:Nat) (c:Crd) (A:Option Addr) (l:List ByteArray) (c1:Nat) (hw:R.Wf) (hk:k<R.cs.length) (hc:c∈R.cs) (hl:l.length<=c1) (hs:Sat cx β n H [srowF A l c1,rsF R] w):
  Con Tryz.prog z_cj #[ptr R.b,.int .i64 (k:Int),.agg (Crd.vs {c with rA:=A,rc:=c1,roles:=l}).toArray] w [srowF A l c1,rsF R] (rsOut R (setTR R.a k {c.a with roles:=l})):=by
 have hD: ∀k,(rdF 1 A l.length (strs l)).D k->(srowF A l c1).D k:=fun k hk=>by
  obtain ⟨h0,ad,rfl,rfl⟩:=hk
  rfl
 have h2:=hs.rsPool (g:=rdF 1 A l.length (strs l)) rfl (fun w h=>z_an h) hD
 have hR:RS.Wf {R with ps:=rdF 1 A l.length (strs l)::R.ps}:=hw.pool _
 refine ((z_wA w {R with ps:=rdF 1 A l.length (strs l)::R.ps} k {c with rA:=A,rc:=c1,roles:=l} hR hk ⟨List.mem_cons_of_mem _ (hw.mem c hc).1,List.mem_cons_self ..,hl⟩ (h2.mem.take (js:=[0]) rfl)).gs (z_vE hD)).mono fun v Fs h=>?_
 obtain ⟨R',h1,h2,h3,h4,h5,h6,h7,h8⟩:=h
 exact ⟨R',h1,h2,h3,h4,h5,h6,fun f hf=>h7 f (List.mem_cons_of_mem _ hf),h8⟩
def grantR (X:RA) (t u role:ByteArray) (less:Bool):Int×RA:=match oneR X.cs t u with
 | none=>(6,X)
 | some (k,c)=>if plainF role.data.toList=false then (5,X)
  else if less=true then (if hasT c.roles role=false then (12,X) else setTR X k {c with roles:=wout c.roles role})
  else if hasT c.roles role=true then (7,X) else if 8<=c.roles.length then (8,X) else setTR X k {c with roles:=insT c.roles (rank c.roles role) role}
set_option maxHeartbeats 1000000 in
theorem z_uQ (w:World) (R:RS) (t u role:ByteArray) (less:Bool) (hw:R.Wf) (hu:u.size<=100000) (hro:role.size<=100000) (hm:Mem w [rsF R]):Con Tryz.prog z_dE #[ptr R.b,.string t,.string u,.string role,.bool less] w [rsF R] (rsOut R (grantR R.a t u role less)):=by
 have g:=z_gx w (Un [rsF R])
 have hln:=hw.ln
 refine z_ac (cx:=z_dl w (Un [rsF R])) g z_iY rfl rfl (β:=Va.z) [.c (.v (ptr R.b)),.c (.v (.string t)),.c (.v (.string u)),.c (.v (.string role)),.c (.v (.bool less))] 0 [] [rsF R] rfl rfl (hm.sat0 rfl (fun f hf _ k hk=>⟨f,hf,hk⟩)) ?_
 refine z_aa [] (fun β w' hs=>z_rI w' R t u (hs.get 0 rfl) (hs.getLt 0 rfl) hu (by omega)) ?_
 rintro v Fs ⟨i,rfl,hf,rfl⟩
 refine BIf.dec (fun hneg=>?_) (fun hpos=>?_)
 ·have hneg0:i<0:=hneg
  have hr:grantR R.a t u role less=(6,R.a):=by
   unfold grantR
   rcases hf with ⟨_,h⟩ | ⟨k,c,rfl,_,_⟩
   ·rw [h]
   ·exfalso;omega
  intro β w' hs
  exact hs.fin [0] (z_ar hw hr)
 have hpos0: ¬i<0:=hpos
 obtain ⟨k,c,rfl,hc,h1⟩: ∃(k:Nat) (c:Crd),i=(k:Int)/\R.cs[k]?=some c/\oneR R.a.cs t u=some (k,c.a):=by
  rcases hf with ⟨h,_⟩ | h
  ·exfalso;omega
  ·exact h
 have hr0:grantR R.a t u role less=if plainF role.data.toList=false then (5,R.a)
   else if less=true then (if hasT c.roles role=false then (12,R.a) else setTR R.a k {c.a with roles:=wout c.roles role})
   else if hasT c.roles role=true then (7,R.a) else if 8<=c.roles.length then (8,R.a) else setTR R.a k {c.a with roles:=insT c.roles (rank c.roles role) role}:=by unfold grantR;rw [h1];rfl
 have hcm:=List.mem_of_getElem? hc
 obtain ⟨hris,hrl⟩:=hw.ro c hcm
 obtain ⟨hkl,_⟩:=List.getElem?_eq_some_iff.1 hc
 obtain ⟨ad,hA,_⟩:=(rs_rd (hm.fact (rsF R) (by simp))).2 (by omega)
 have hrd: ∀w',(rsF R).p w'->Rd 1 c.rA c.roles.length (strs c.roles) w':=fun w' h=>rs_po h _ (hw.mem c hcm).2.1
 refine ⟨.slice R.lA R.cs.length R.lc,fun β w' hs=>bkc (rs_bk (hs.get 0 rfl)) rfl,?_⟩
 refine ⟨ad,k,hA,rfl,hkl,c.vs,rfl,fun β w' hs=>z_kL (rs_rd (hs.get 0 rfl)) hA hc,?_⟩
 refine z_ae (fun β w' hs=>inT_c w' c.rA c.roles c.rc role (hrd w' (hs.get 0 rfl)) (by omega)) ?_
 refine z_ae (fun β w' hs=>z_mu w' role hro) ?_
 generalize plainF role.data.toList=bp at hr0
 cases bp with
 | false=>
  intro β w' hs
  exact (hs.keepB (List.nil_sublist _)).fin [0] (z_ar hw hr0)
 | true=>
 rw [if_neg (by decide)] at hr0
 generalize hasT c.roles role=bh at hr0
 cases less with
 | true=>
  rw [if_pos rfl] at hr0
  cases bh with
  | false=>
   intro β w' hs
   exact (hs.keepB (List.nil_sublist _)).fin [0] (z_ar hw hr0)
  | true=>
   rw [if_neg (by decide)] at hr0
   refine z_aa [] (fun β w' hs=>z_p2 w' c.rA c.roles c.rc role (hrd w' (hs.get 0 rfl)) (by omega)) ?_
   rintro v Fs ⟨A1,c1,rfl,hc1,rfl⟩
   refine z_aa [0,1] (fun β w' hs=>z_s8 R k c A1 (wout c.roles role) c1 hw hkl hcm hc1 (hs.keepB (List.nil_sublist _))) ?_
   rintro v Fs ⟨R',rfl,h2,h3,h4,h5,h6,h7,rfl⟩
   intro β w' hs
   exact (hs.keepB (List.nil_sublist _)).fin [0] ⟨R',by rw [hr0];rfl,by rw [hr0];exact h2,h3,h4,h5,h6,h7,rfl⟩
 | false=>
  rw [if_neg (by decide)] at hr0
  cases bh with
  | true=>
   intro β w' hs
   exact (hs.keepB (List.nil_sublist _)).fin [0] (z_ar hw hr0)
  | false=>
   rw [if_neg (by decide)] at hr0
   refine BIf.dec (fun h8=>?_) (fun h8=>?_)
   ·have h80:(8:Int)<=(c.roles.length:Int):=h8
    rw [if_pos (by omega)] at hr0
    intro β w' hs
    exact (hs.keepB (List.nil_sublist _)).fin [0] (z_ar hw hr0)
   have h80: ¬(8:Int)<=(c.roles.length:Int):=h8
   rw [if_neg (by omega)] at hr0
   refine z_aa [] (fun β w' hs=>put_c w' c.rA c.roles c.rc role (hrd w' (hs.get 0 rfl)) (by omega) (hw.mem c hcm).2.2 hris) ?_
   rintro v Fs ⟨A1,c1,rfl,hc1,rfl⟩
   refine z_aa [0,1] (fun β w' hs=>z_s8 R k c A1 (insT c.roles (rank c.roles role) role) c1 hw hkl hcm hc1 (hs.keepB (List.nil_sublist _))) ?_
   rintro v Fs ⟨R',rfl,h2,h3,h4,h5,h6,h7,rfl⟩
   intro β w' hs
   exact (hs.keepB (List.nil_sublist _)).fin [0] ⟨R',by rw [hr0];rfl,by rw [hr0];exact h2,h3,h4,h5,h6,h7,rfl⟩
def ltB (d c:ACrd):Bool:=decide (tlt d.tenant c.tenant) || (decide (d.tenant=c.tenant)&&decide (tlt d.user c.user))
def insA (cs:List ACrd) (c:ACrd):List ACrd:=cs.takeWhile (fun d=>ltB d c)++c::cs.dropWhile (fun d=>ltB d c)
theorem z_rA {α:Type} (p:α->Bool): ∀(l:List α) (i:Nat),(∀d∈l.take i,p d=true)->(∀d,l[i]?=some d->p d=false)->l.takeWhile p=l.take i/\l.dropWhile p=l.drop i
 | [],i,_,_=>by simp
 | x::r,0,_,h=>by
  have hx:p x=false:=h x rfl
  simp [List.takeWhile_cons,List.dropWhile_cons,hx]
 | x::r,i+1,hp,h=>by
  have hx:p x=true:=hp x (by simp)
  obtain ⟨h1,h2⟩:=z_rA p r i (fun d hd=>hp d (by rw [List.take_succ_cons];exact List.mem_cons_of_mem _ hd)) (fun d hd=>h d (by simpa using hd))
  simp [List.takeWhile_cons,List.dropWhile_cons,hx,h1,h2]
def insU (R:RS) (c:ACrd) (v:Value) (Fs:List Fact):Prop:= ∃R':RS,v= .tuple #[]/\R'.a= {R.a with cs:=insA R.a.cs c}/\R'.b=R.b/\R'.ts.length<=R'.tc/\R'.cs.length<=R'.lc/\(∀c∈R'.cs,inP R'.ps c)/\(∀f∈R.ps,f∈R'.ps)/\Fs=[rsF R']
theorem z_tS {R:RS} {c:ACrd} {i:Nat} (hpre: ∀d∈R.cs.take i,ltB d.a c=true) (hst: ∀d,R.cs[i]?=some d->ltB d.a c=false):insA R.a.cs c=(R.cs.take i).map Crd.a++c::(R.cs.drop i).map Crd.a:=by
 obtain ⟨h1,h2⟩:=z_rA (fun d=>ltB d c) (R.cs.map Crd.a) i (fun d hd=>by
  rw [<-List.map_take] at hd
  obtain ⟨e,he,rfl⟩:=List.mem_map.1 hd
  exact hpre e he) (fun d hd=>by
  rw [List.getElem?_map] at hd
  cases h:R.cs[i]? with
  | none=>rw [h] at hd;cases hd
  | some e=>
   rw [h] at hd
   obtain rfl:=Option.some.inj hd
   exact hst e h)
 show (R.cs.map Crd.a).takeWhile _++c::(R.cs.map Crd.a).dropWhile _=_
 rw [h1,h2,List.map_take,List.map_drop]
set_option maxHeartbeats 1000000 in
theorem z_wC (w:World) (R:RS) (c:Crd) (htc:R.ts.length<=R.tc) (hlc:R.cs.length<=R.lc) (hln:R.cs.length<=1000) (hmem: ∀c∈R.cs,inP R.ps c) (hc:inP R.ps c) (hm:Mem w [rsF R]):Con Tryz.prog z_c9 #[ptr R.b,.agg c.vs.toArray] w [rsF R] (insU R c.a):=by
 have g:=z_fO w (Un [rsF R])
 have hml:=maxLen_eq
 refine z_ac (cx:=z_bh w (Un [rsF R])) g z_hB rfl rfl (β:=Va.z) [.c (.v (ptr R.b)),.agg c.ss] 0 [] [rsF R] rfl rfl (hm.sat0 rfl (fun f hf _ k hk=>⟨f,hf,hk⟩)) ?_
 refine z_pb (κ:=Nat) 0 (fun i=>i<=R.cs.length/\insA R.a.cs c.a=(R.cs.take i).map Crd.a++c.a::(R.cs.drop i).map Crd.a) 1 (fun i=>[(0,.c (.v (ptr R.b))),(3,.c (.p 0 0)),(4,.c (.v (.int .i64 (i:Int))))]) (fun _=>[⟨0,z_af,c.ss⟩]) (fun _=>[rsF R]) ?_ ?_
 ·rintro i ⟨hi,hins⟩
  obtain ⟨l,hl⟩: ∃l:List Crd,l=R.cs.take i++c::R.cs.drop i:=⟨_,rfl⟩
  have hlen:l.length=R.cs.length+1:=by rw [hl,List.length_append,List.length_take,List.length_cons,List.length_drop];omega
  have hA1: ∀w',(rsF R).p w'->Rd 10 (cutA R.lA R.lc 0 10) i ((R.cs.take i).flatMap Crd.vs) w':=fun w' h=>by
   have h2:=z_mp (rs_rd h) hlc (Nat.zero_le i) hi
   rw [Nat.sub_zero,List.drop_zero] at h2
   exact h2
  have hA2: ∀w',(rsF R).p w'->Rd 10 (cutA R.lA R.lc i 10) (R.cs.length - i) ((R.cs.drop i).flatMap Crd.vs) w':=fun w' h=>by
   have h2:=z_mp (rs_rd h) hlc hi (Nat.le_refl _)
   rw [List.take_of_length_le (by rw [List.length_drop];omega)] at h2
   exact h2
  have fin_: ∀(A:Option Addr) (c3:Nat) (_:R.cs.length+1<=c3) {β:Va} {n:Nat} {w':World} {H:List Bk},Sat (z_bh w (Un [rsF R])) β n H [rsF {R with lA:=A,lc:=c3,cs:=l}] w'->Fin w [rsF R] (insU R c.a) (.tuple #[]) w':=fun A c3 h3 {β n w' H} hs=>
   (hs.keepB (List.nil_sublist _)).fin [0] ⟨{R with lA:=A,lc:=c3,cs:=l},rfl,by
    show RA.mk _ (l.map Crd.a) _ _=_
    rw [hins,hl,List.map_append]
    rfl,rfl,htc,by show l.length<=c3;omega,fun z hz=>by
    rw [hl] at hz
    rcases List.mem_append.1 hz with h | h
    ·exact hmem z (List.mem_of_mem_take h)
    ·rcases List.mem_cons.1 h with rfl | h
     ·exact hc
     ·exact hmem z (List.mem_of_mem_drop h),fun _ h=>h,rfl⟩
  refine z_aj g z_gk (by kernel_rfl) [⟨0,z_af,c.ss⟩] [rsF R] (subPerm [0]) ?_
  refine ⟨.slice R.lA R.cs.length R.lc,fun β w' hs=>bkc (rs_bk (hs.get 0 rfl)) rfl,?_⟩
  refine ⟨R.lc,i,0,i,R.lc,_,rfl,rfl,rfl,Nat.le_refl _,by omega,Nat.zero_le _,rfl,rfl,rfl,?_⟩
  refine ⟨.slice R.lA R.cs.length R.lc,fun β w' hs=>bkc (rs_bk (hs.get 0 rfl)) rfl,?_⟩
  refine ⟨R.lc,R.cs.length,i,R.cs.length - i,R.lc - i,_,rfl,rfl,rfl,Nat.le_refl _,by omega,hi,rfl,rfl,rfl,?_⟩
  refine ⟨?_,?_⟩
  ·intro b0
   refine ⟨subPerm [1],?_⟩
   refine ⟨?_,?_⟩
   ·refine ⟨0,0,i,[],(R.cs.take i).flatMap Crd.vs,(R.cs.take i).flatMap Crd.vs,rfl,fun β w' hs=>hA1 w' (hs.get 1 rfl),z_d3 _,Nat.zero_add _,rfl,by omega,by show i*176<=_;omega,?_⟩
    intro A1 c1 p1 _ _
    refine ⟨subPerm [1],?_⟩
    intro b1
    refine ⟨subPerm [2],?_⟩
    refine ⟨1,i,i+1,(R.cs.take i).flatMap Crd.vs,c.vs,(R.cs.take i).flatMap Crd.vs++c.vs,rfl,fun β w' hs=>z_an (hs.get 0 rfl),z_jM c,rfl,rfl,by omega,by show (i+1)*176<=_;omega,?_⟩
    intro A2 c2 p2 _ _
    refine ⟨subPerm [2],?_⟩
    refine ⟨1,i+1,R.cs.length+1,(R.cs.take i).flatMap Crd.vs++c.vs,(R.cs.drop i).flatMap Crd.vs,l.flatMap Crd.vs,rfl,fun β w' hs=>hA2 w' (hs.get 2 rfl),z_d3 _,by omega,by rw [hl];simp,by omega,by show (R.cs.length+1)*176<=_;omega,?_⟩
    intro A3 c3 p3 _ _
    refine ⟨subPerm [2],?_⟩
    refine ⟨subPerm [2],?_⟩
    refine ⟨[rsF {R with lA:=A3,lc:=c3,cs:=l}],fun β w' hs=>?_,?_⟩
    ·have h:=hs.perm [1,2]
     rw [<-hlen] at h ⊢
     exact h.rsLs
    intro β w' hs
    exact fin_ A3 c3 p3 hs
   ·intro b1
    refine ⟨subPerm [2],?_⟩
    refine ⟨1,0,i,[],(R.cs.take i).flatMap Crd.vs,(R.cs.take i).flatMap Crd.vs,rfl,fun β w' hs=>hA1 w' (hs.get 2 rfl),z_d3 _,Nat.zero_add _,rfl,by omega,by show i*176<=_;omega,?_⟩
    intro A1 c1 p1 _ _
    refine ⟨subPerm [2],?_⟩
    refine ⟨1,i,i+1,(R.cs.take i).flatMap Crd.vs,c.vs,(R.cs.take i).flatMap Crd.vs++c.vs,rfl,fun β w' hs=>z_an (hs.get 0 rfl),z_jM c,rfl,rfl,by omega,by show (i+1)*176<=_;omega,?_⟩
    intro A2 c2 p2 _ _
    refine ⟨subPerm [2],?_⟩
    refine ⟨1,i+1,R.cs.length+1,(R.cs.take i).flatMap Crd.vs++c.vs,(R.cs.drop i).flatMap Crd.vs,l.flatMap Crd.vs,rfl,fun β w' hs=>hA2 w' (hs.get 2 rfl),z_d3 _,by omega,by rw [hl];simp,by omega,by show (R.cs.length+1)*176<=_;omega,?_⟩
    intro A3 c3 p3 _ _
    refine ⟨subPerm [2],?_⟩
    refine ⟨subPerm [2],?_⟩
    refine ⟨[rsF {R with lA:=A3,lc:=c3,cs:=l}],fun β w' hs=>?_,?_⟩
    ·have h:=hs.perm [1,2]
     rw [<-hlen] at h ⊢
     exact h.rsLs
    intro β w' hs
    exact fin_ A3 c3 p3 hs
  ·intro b1
   refine ⟨subPerm [1],?_⟩
   intro b0
   refine ⟨subPerm [2],?_⟩
   refine ⟨0,0,i,[],(R.cs.take i).flatMap Crd.vs,(R.cs.take i).flatMap Crd.vs,rfl,fun β w' hs=>hA1 w' (hs.get 2 rfl),z_d3 _,Nat.zero_add _,rfl,by omega,by show i*176<=_;omega,?_⟩
   intro A1 c1 p1 _ _
   refine ⟨subPerm [2],?_⟩
   refine ⟨0,i,i+1,(R.cs.take i).flatMap Crd.vs,c.vs,(R.cs.take i).flatMap Crd.vs++c.vs,rfl,fun β w' hs=>z_an (hs.get 1 rfl),z_jM c,rfl,rfl,by omega,by show (i+1)*176<=_;omega,?_⟩
   intro A2 c2 p2 _ _
   refine ⟨subPerm [2],?_⟩
   refine ⟨0,i+1,R.cs.length+1,(R.cs.take i).flatMap Crd.vs++c.vs,(R.cs.drop i).flatMap Crd.vs,l.flatMap Crd.vs,rfl,fun β w' hs=>hA2 w' (hs.get 2 rfl),z_d3 _,by omega,by rw [hl];simp,by omega,by show (R.cs.length+1)*176<=_;omega,?_⟩
   intro A3 c3 p3 _ _
   refine ⟨subPerm [2],?_⟩
   refine ⟨subPerm [2],?_⟩
   refine ⟨[rsF {R with lA:=A3,lc:=c3,cs:=l}],fun β w' hs=>?_,?_⟩
   ·have h:=hs.perm [0,2]
    rw [<-hlen] at h ⊢
    exact h.rsLs
   intro β w' hs
   exact fin_ A3 c3 p3 hs
 refine z_ai 1 (fun i:Nat=>[(0,.c (.v (ptr R.b))),(3,.c (.p 0 0)),(4,.c (.v (.int .i64 (i:Int))))]) (fun _=>[⟨0,z_af,c.ss⟩]) (fun _=>[rsF R])
  (fun i=>i<=R.cs.length/\ ∀d∈R.cs.take i,ltB d.a c.a=true) (fun i=>R.cs.length - i) 0 ⟨Nat.zero_le _,fun d h=>by cases h⟩ (Ent.same ⟨rfl,rfl,rfl,trivial⟩ rfl) g ?_
 rintro i ⟨hi,hpre⟩
 have next: ∀ {d:Crd},R.cs[i]?=some d->ltB d.a c.a=true-> ∀e∈R.cs.take (i+1),ltB e.a c.a=true:=fun {d} hd hb e he=>by
  rw [List.take_add_one,hd] at he
  rcases List.mem_append.1 he with he | he
  ·exact hpre e he
  ·obtain rfl:=List.mem_singleton.1 he
   exact hb
 have stop: ∀ {d:Crd},R.cs[i]?=some d->ltB d.a c.a=false->insA R.a.cs c.a=(R.cs.take i).map Crd.a++c.a::(R.cs.drop i).map Crd.a:=fun {d} hd hb=>z_tS hpre (fun e he=>by
  rw [hd] at he
  obtain rfl:=Option.some.inj he
  exact hb)
 refine z_aj g z_gt (by kernel_rfl) [⟨0,z_af,c.ss⟩] [rsF R] (subPerm [0]) ?_
 refine ⟨.slice R.lA R.cs.length R.lc,fun β w' hs=>bkc (rs_bk (hs.get 0 rfl)) rfl,?_⟩
 refine BIf.dec (fun hlt=>?_) (fun hge=>?_)
 ·have hlt0:(i:Int)<R.cs.length:=hlt
  obtain ⟨d,hd,hdm⟩:=at_lt (show i<R.cs.length by omega)
  obtain ⟨ad,hA,_⟩:=(rs_rd (hm.fact (rsF R) (by simp))).2 (by omega)
  refine ⟨.slice R.lA R.cs.length R.lc,fun β w' hs=>bkc (rs_bk (hs.get 0 rfl)) rfl,?_⟩
  refine ⟨ad,i,hA,rfl,by omega,?_⟩
  refine ⟨.string d.tenant,fun β w' hs=>z_kL (rs_rd (hs.get 0 rfl)) hA hd 0 _ rfl,?_⟩
  obtain ⟨b1,hb1⟩: ∃b,Op.bytesLess d.tenant.toList c.tenant.toList=b:=⟨_,rfl⟩
  conv=>whnf
  rw [hb1]
  rw [z_gm] at hb1
  cases b1 with
  | true=>
   have hb:ltB d.a c.a=true:=by unfold ltB;rw [show decide (tlt d.a.tenant c.a.tenant)=true from hb1];rfl
   refine ⟨((i+1:Nat):Int),by rw [wrap_i64 (by omega) (by omega)];rfl,?_⟩
   exact ⟨i+1,⟨by omega,next hd hb⟩,by omega,Ent.same ⟨rfl,rfl,rfl,trivial⟩ rfl⟩
  | false=>
   refine ⟨.slice R.lA R.cs.length R.lc,fun β w' hs=>bkc (rs_bk (hs.get 0 rfl)) rfl,?_⟩
   refine ⟨ad,i,hA,rfl,by omega,?_⟩
   refine ⟨.string d.tenant,fun β w' hs=>z_kL (rs_rd (hs.get 0 rfl)) hA hd 0 _ rfl,?_⟩
   refine BIf.dec (fun heq=>?_) (fun hne=>?_)
   ·have heq0:d.tenant=c.tenant:=heq
    refine ⟨.slice R.lA R.cs.length R.lc,fun β w' hs=>bkc (rs_bk (hs.get 0 rfl)) rfl,?_⟩
    refine ⟨ad,i,hA,rfl,by omega,?_⟩
    refine ⟨.string d.user,fun β w' hs=>z_kL (rs_rd (hs.get 0 rfl)) hA hd 1 _ rfl,?_⟩
    obtain ⟨b2,hb2⟩: ∃b,Op.bytesLess d.user.toList c.user.toList=b:=⟨_,rfl⟩
    conv=>whnf
    rw [hb2]
    rw [z_gm] at hb2
    have hv:ltB d.a c.a=b2:=by
     unfold ltB
     rw [show decide (tlt d.a.tenant c.a.tenant)=false from hb1,show decide (d.a.tenant=c.a.tenant)=true from decide_eq_true heq0,show decide (tlt d.a.user c.a.user)=b2 from hb2]
     cases b2<;>rfl
    cases b2 with
    | true=>
     refine ⟨((i+1:Nat):Int),by rw [wrap_i64 (by omega) (by omega)];rfl,?_⟩
     exact ⟨i+1,⟨by omega,next hd hv⟩,by omega,Ent.same ⟨rfl,rfl,rfl,trivial⟩ rfl⟩
    | false=>exact EntX.of i ⟨hi,stop hd hv⟩ (Ent.same ⟨rfl,rfl,rfl,trivial⟩ rfl)
   ·have hne0: ¬d.tenant=c.tenant:=hne
    have hv:ltB d.a c.a=false:=by
     unfold ltB
     rw [show decide (tlt d.a.tenant c.a.tenant)=false from hb1,show decide (d.a.tenant=c.a.tenant)=false from decide_eq_false hne0]
     rfl
    exact EntX.of i ⟨hi,stop hd hv⟩ (Ent.same ⟨rfl,rfl,rfl,trivial⟩ rfl)
 ·have hge0: ¬(i:Int)<R.cs.length:=hge
  exact EntX.of i ⟨hi,z_tS hpre (fun d hd=>by
   have:=(List.getElem?_eq_some_iff.1 hd).1
   omega)⟩ (Ent.same ⟨rfl,rfl,rfl,trivial⟩ rfl)
def loadR (X:RA) (c:ACrd):Int×RA:=
 if (plainF c.tenant.data.toList&&allPl c.roles)=false then (5,X)
 else if¬((nameA c.user).2=0/\(nameA c.user).1=c.user/\risB c.roles=true/\rightA c.sec=true/\1<=c.gen/\c.gen<=greatN) then (4,X)
 else match oneR X.cs c.tenant c.user with
  | some _=>(7,X)
  | none=>if hasT X.ts c.tenant=false/\8<=X.ts.length then (8,X) else if 32<=(inTA X.cs c.tenant).length then (8,X)
   else (0,{X with ts:=if hasT X.ts c.tenant=true then X.ts else insT X.ts (rank X.ts c.tenant) c.tenant,cs:=insA X.cs c,last:=max X.last c.gen})
structure LdK where
 i:Nat
 b5:Bool
 b6:Bool
theorem z_v9 {l:List ByteArray} {i:Nat} {y z:ByteArray} (hi:0<i) (hy:l[i]?=some y) (hz:l[i - 1]?=some z):decide ((l.take (i+1)).Pairwise tlt)=(decide ((l.take i).Pairwise tlt)&&decide (tlt z y)):=by
 rw [Bool.eq_iff_iff,Bool.and_eq_true,decide_eq_true_iff,decide_eq_true_iff,decide_eq_true_iff]
 have hil:=(List.getElem?_eq_some_iff.1 hy).1
 constructor
 ·intro q
  refine ⟨q.sublist (List.take_sublist_take_left (Nat.le_succ i)),z_l0 q (show i - 1<i by omega) ?_ ?_⟩
  ·rw [List.getElem?_take,if_pos (by omega)];exact hz
  ·rw [List.getElem?_take,if_pos (by omega)];exact hy
 ·rintro ⟨hpre,hzy⟩
  rw [List.take_add_one,hy]
  refine List.pairwise_append.2 ⟨hpre,List.pairwise_singleton _ _,fun a ha b hb=>?_⟩
  obtain rfl:=List.mem_singleton.1 hb
  obtain ⟨k,hk⟩:=List.mem_iff_getElem?.1 ha
  have hki:k<i:=by have:=(List.getElem?_eq_some_iff.1 hk).1;rw [List.length_take] at this;omega
  rcases Nat.lt_or_ge k (i - 1) with h | h
  ·exact z_bv (z_l0 hpre h hk (by rw [List.getElem?_take,if_pos (by omega)];exact hz)) hzy
  ·obtain rfl:k=i - 1:=by omega
   rw [List.getElem?_take,if_pos hki,hz] at hk
   obtain rfl:=Option.some.inj hk
   exact hzy
set_option maxHeartbeats 2000000 in
theorem z_xa (w:World) (R:RS) (c:Crd) (hc:inP R.ps c) (hw:R.Wf) (ht:c.tenant.size<=100000) (hu:c.user.size<=100000) (hrs: ∀r∈c.roles,r.size<=100000) (hrl:c.roles.length<=100000) (hm:Mem w [rsF R]):
  Con Tryz.prog z_b5 #[ptr R.b,.agg c.vs.toArray] w [rsF R] (rsOut R (loadR R.a c.a)):=by
 have g:=z_hc w (Un [rsF R])
 have hln:=hw.ln
 have htn:=hw.tn
 refine z_ac (cx:=z_bP w (Un [rsF R])) g z_jZ rfl rfl (β:=Va.z) [.c (.v (ptr R.b)),.agg c.ss] 0 [] [rsF R] rfl rfl (hm.sat0 rfl (fun f hf _ k hk=>⟨f,hf,hk⟩)) ?_
 have hrd: ∀w',(rsF R).p w'->Rd 1 c.rA c.roles.length (strs c.roles) w':=fun w' h=>rs_po h _ hc.2.1
 obtain ⟨p,e,hpe⟩: ∃p e,nameA c.user=(p,e):=⟨_,_,rfl⟩
 refine z_ae (fun β w' hs=>z_mu w' c.tenant ht) ?_
 refine z_ai (ι:=LdK) 1 (fun j=>[(0,.c (.v (ptr R.b))),(3,.c (.p 0 0)),(5,.c (.v (.bool j.b5))),(6,.c (.v (.bool j.b6))),(21,.c (.v (.slice c.rA c.roles.length c.rc))),(22,.c (.v (.int .i64 (c.roles.length:Int)))),(23,.c (.v (.int .i64 (j.i:Int))))]) (fun _=>[⟨0,z_af,c.ss⟩]) (fun _=>[rsF R])
  (fun j=>j.i<=c.roles.length/\j.b5=(plainF c.tenant.data.toList&&allPl (c.roles.take j.i))/\j.b6=(decide ((c.roles.length:Int)<=8)&&decide ((c.roles.take j.i).Pairwise tlt))) (fun j=>c.roles.length - j.i) ⟨0,plainF c.tenant.data.toList,decide ((c.roles.length:Int)<=8)⟩ ⟨Nat.zero_le _,by simp [allPl],by simp⟩ (Ent.same ⟨rfl,rfl,rfl,rfl,rfl,rfl,rfl,trivial⟩ rfl) g ?_
 rintro ⟨i,b5,b6⟩ ⟨hi,h5,h6⟩
 simp only at hi h5 h6
 refine BIf.dec (fun hlt=>?_) (fun hge=>?_)
 ·have hlt0:(i:Int)<c.roles.length:=hlt
  obtain ⟨y,hy,hym⟩:=at_lt (show i<c.roles.length by omega)
  obtain ⟨ad,hA,_⟩:=(hrd w (hm.fact (rsF R) (by simp))).2 (by omega)
  have hld: ∀ {β:Va} {n:Nat} {H:List Bk} {w':World},Sat (z_bP w (Un [rsF R])) β n H [rsF R] w'-> ∀k z,c.roles[k]?=some z->w'.cell? (ad.add (k*1))=some (.string z):=fun hs k z hz=>Rd.cell1 (by have h:=hrd _ (hs.get 0 rfl);rw [hA] at h;exact h) (by simp [strs,hz])
  have n5:(plainF c.tenant.data.toList&&allPl (c.roles.take (i+1)))=(b5&&plainF y.data.toList):=by
   rw [h5,List.take_add_one,hy]
   unfold allPl
   rw [List.all_append,Bool.and_assoc]
   simp
  have step6: ∀b,(i=0->b=b6)->(∀z,0<i->c.roles[i - 1]?=some z->b=(b6&&decide (tlt z y)))->b=(decide ((c.roles.length:Int)<=8)&&decide ((c.roles.take (i+1)).Pairwise tlt)):=fun b h0 h1=>by
   rcases Nat.eq_zero_or_pos i with q | q
   ·rw [h0 q,h6,q,List.take_add_one,<-q,hy]
    subst q
    simp
   ·obtain ⟨z,hz,_⟩:=at_lt (show i - 1<c.roles.length by omega)
    rw [h1 z q hz,z_v9 q hy hz,h6,Bool.and_assoc]
  refine ⟨ad,i,hA,rfl,by omega,.string y,fun β w' hs=>hld hs i y hy,?_⟩
  cases b5 with
  | false=>
   cases b6 with
   | false=>
    refine ⟨((i+1:Nat):Int),by rw [wrap_i64 (by omega) (by omega)];rfl,?_⟩
    exact ⟨⟨i+1,false,false⟩,⟨by show i+1<=c.roles.length;omega,by rw [n5];rfl,step6 _ (fun _=>rfl) (fun _ _ _=>rfl)⟩,by show c.roles.length - (i+1)<c.roles.length - i;omega,Ent.same ⟨rfl,rfl,rfl,rfl,rfl,rfl,rfl,trivial⟩ rfl⟩
   | true=>
    refine BIf.dec (fun h0=>?_) (fun h0=>?_)
    ·have h00:(i:Int)=0:=h0
     refine ⟨((i+1:Nat):Int),by rw [wrap_i64 (by omega) (by omega)];rfl,?_⟩
     exact ⟨⟨i+1,false,true⟩,⟨by show i+1<=c.roles.length;omega,by rw [n5];rfl,step6 _ (fun _=>rfl) (fun _ q _=>by exfalso;omega)⟩,by show c.roles.length - (i+1)<c.roles.length - i;omega,Ent.same ⟨rfl,rfl,rfl,rfl,rfl,rfl,rfl,trivial⟩ rfl⟩
    ·have h00: ¬(i:Int)=0:=h0
     obtain ⟨z,hz,hzm⟩:=at_lt (show i - 1<c.roles.length by omega)
     refine ⟨((i - 1:Nat):Int),by show IntKind.i64.wrap ((i:Int) - 1)=_;rw [wrap_i64 (by omega) (by omega)];omega,?_⟩
     refine ⟨ad,i - 1,hA,rfl,by omega,.string z,fun β w' hs=>hld hs _ _ hz,?_⟩
     refine ⟨((i+1:Nat):Int),by rw [wrap_i64 (by omega) (by omega)];rfl,?_⟩
     exact ⟨⟨i+1,false,Op.bytesLess z.toList y.toList⟩,⟨by show i+1<=c.roles.length;omega,by rw [n5];rfl,step6 _ (fun q=>by exfalso;omega) (fun z2 _ hz2=>by
      rw [hz] at hz2
      obtain rfl:=Option.some.inj hz2
      rw [z_gm,Bool.true_and])⟩,by show c.roles.length - (i+1)<c.roles.length - i;omega,Ent.same ⟨rfl,rfl,rfl,rfl,rfl,rfl,rfl,trivial⟩ rfl⟩
  | true=>
   refine z_ae (fun β w' hs=>z_mu w' y (hrs y hym)) ?_
   cases b6 with
   | false=>
    refine ⟨((i+1:Nat):Int),by rw [wrap_i64 (by omega) (by omega)];rfl,?_⟩
    exact ⟨⟨i+1,plainF y.data.toList,false⟩,⟨by show i+1<=c.roles.length;omega,by rw [n5];rfl,step6 _ (fun _=>rfl) (fun _ _ _=>rfl)⟩,by show c.roles.length - (i+1)<c.roles.length - i;omega,Ent.same ⟨rfl,rfl,rfl,rfl,rfl,rfl,rfl,trivial⟩ rfl⟩
   | true=>
    refine BIf.dec (fun h0=>?_) (fun h0=>?_)
    ·have h00:(i:Int)=0:=h0
     refine ⟨((i+1:Nat):Int),by rw [wrap_i64 (by omega) (by omega)];rfl,?_⟩
     exact ⟨⟨i+1,plainF y.data.toList,true⟩,⟨by show i+1<=c.roles.length;omega,by rw [n5];rfl,step6 _ (fun _=>rfl) (fun _ q _=>by exfalso;omega)⟩,by show c.roles.length - (i+1)<c.roles.length - i;omega,Ent.same ⟨rfl,rfl,rfl,rfl,rfl,rfl,rfl,trivial⟩ rfl⟩
    ·have h00: ¬(i:Int)=0:=h0
     obtain ⟨z,hz,hzm⟩:=at_lt (show i - 1<c.roles.length by omega)
     refine ⟨((i - 1:Nat):Int),by show IntKind.i64.wrap ((i:Int) - 1)=_;rw [wrap_i64 (by omega) (by omega)];omega,?_⟩
     refine ⟨ad,i - 1,hA,rfl,by omega,.string z,fun β w' hs=>hld hs _ _ hz,?_⟩
     refine ⟨((i+1:Nat):Int),by rw [wrap_i64 (by omega) (by omega)];rfl,?_⟩
     exact ⟨⟨i+1,plainF y.data.toList,Op.bytesLess z.toList y.toList⟩,⟨by show i+1<=c.roles.length;omega,by rw [n5];rfl,step6 _ (fun q=>by exfalso;omega) (fun z2 _ hz2=>by
      rw [hz] at hz2
      obtain rfl:=Option.some.inj hz2
      rw [z_gm,Bool.true_and])⟩,by show c.roles.length - (i+1)<c.roles.length - i;omega,Ent.same ⟨rfl,rfl,rfl,rfl,rfl,rfl,rfl,trivial⟩ rfl⟩
 ·have hge0: ¬(i:Int)<c.roles.length:=hge
  rw [List.take_of_length_le (by omega)] at h5 h6
  have hri:b6=risB c.roles:=by
   rw [h6]
   unfold risB
   rw [Bool.and_comm]
   congr 1
   exact decide_eq_decide.2 (by omega)
  refine z_ae (fun β w' hs=>rsz_c w' c.user hu) ?_
  rw [hpe]
  have hl0:loadR R.a c.a=if b5=false then ((5,R.a):Int×RA)
    else if¬(e=0/\p=c.user/\b6=true/\rightA c.sec.a=true/\1<=c.gen/\c.gen<=greatN) then (4,R.a)
    else match oneR R.a.cs c.tenant c.user with
     | some _=>(7,R.a)
     | none=>if hasT R.ts c.tenant=false/\8<=R.ts.length then (8,R.a) else if 32<=(inTA R.a.cs c.tenant).length then (8,R.a)
      else (0,{R.a with ts:=if hasT R.ts c.tenant=true then R.ts else insT R.ts (rank R.ts c.tenant) c.tenant,cs:=insA R.a.cs c.a,last:=max R.last c.gen}):=by
   unfold loadR
   rw [show nameA c.a.user=(p,e) from hpe,h5,hri]
   rfl
  cases b5 with
  | false=>
   intro β w' hs
   exact (hs.keepB (List.nil_sublist _)).fin [0] (z_ar hw (by rw [hl0,if_pos rfl]))
  | true=>
  have bad: ∀(_: ¬(e=0/\p=c.user/\b6=true/\rightA c.sec.a=true/\1<=c.gen/\c.gen<=greatN)),loadR R.a c.a=(4,R.a):=fun h=>by rw [hl0,if_neg (show¬true=false by decide),if_pos h]
  refine BIf.not (BIf.dec (fun he=>?_) (fun he=>?_))
  rotate_left
  ·have he0: ¬e=0:=he
   intro β w' hs
   exact (hs.keepB (List.nil_sublist _)).fin [0] (z_ar hw (bad (fun h=>he0 h.1)))
  have he0:e=0:=he
  refine BIf.not (BIf.dec (fun hpu=>?_) (fun hpu=>?_))
  rotate_left
  ·have hpu0: ¬p=c.user:=hpu
   intro β w' hs
   exact (hs.keepB (List.nil_sublist _)).fin [0] (z_ar hw (bad (fun h=>hpu0 h.2.1)))
  have hpu0:p=c.user:=hpu
  cases b6 with
  | false=>
   intro β w' hs
   exact (hs.keepB (List.nil_sublist _)).fin [0] (z_ar hw (bad (fun h=>by cases h.2.2.1)))
  | true=>
  obtain ⟨br,hbr⟩: ∃b,rightA c.sec.a=b:=⟨_,rfl⟩
  refine z_ae (v:= .bool br) (fun β w' hs=>by rw [<-hbr];exact z_vN w' c.sec) ?_
  cases br with
  | false=>
   intro β w' hs
   exact (hs.keepB (List.nil_sublist _)).fin [0] (z_ar hw (bad (fun h=>by rw [hbr] at h;cases h.2.2.2.1)))
  | true=>
  refine BIf.dec (fun hg=>?_) (fun hg=>?_)
  ·have hg0:(c.gen:Int)<1:=hg
   intro β w' hs
   exact (hs.keepB (List.nil_sublist _)).fin [0] (z_ar hw (bad (fun h=>by have:=h.2.2.2.2.1;omega)))
  have hg0: ¬(c.gen:Int)<1:=hg
  refine BIf.dec (fun hh=>?_) (fun hh=>?_)
  ·have hh0:(9007199254740992:Int)<(c.gen:Int):=hh
   intro β w' hs
   exact (hs.keepB (List.nil_sublist _)).fin [0] (z_ar hw (bad (fun h=>by have:=h.2.2.2.2.2;unfold greatN at this;omega)))
  have hh0: ¬(9007199254740992:Int)<(c.gen:Int):=hh
  rw [if_neg (show¬true=false by decide),if_neg (fun hn=>hn ⟨he0,hpu0,rfl,hbr,by omega,by unfold greatN;omega⟩)] at hl0
  subst hpu0
  refine z_aa [] (fun β w' hs=>z_rI w' R c.tenant c.user (hs.get 0 rfl) (hs.getLt 0 rfl) hu (by omega)) ?_
  rintro v Fs ⟨i2,rfl,hf,rfl⟩
  refine BIf.dec (fun hpos=>?_) (fun hneg=>?_)
  ·have hpos0:0<=i2:=hpos
   have hr2:loadR R.a c.a=(7,R.a):=by
    rcases hf with ⟨h,_⟩ | ⟨k,c,_,_,h⟩
    ·exfalso;omega
    ·rw [hl0,h]
   intro β w' hs
   exact (hs.keepB (List.nil_sublist _)).fin [0] (z_ar hw hr2)
  have hneg0: ¬0<=i2:=hneg
  have hnone:oneR R.a.cs c.tenant c.user=none:=by
   rcases hf with ⟨_,h⟩ | ⟨k,c,h,_,_⟩
   ·exact h
   ·exfalso;omega
  rw [hnone] at hl0
  obtain ⟨bh,hbh⟩: ∃b,hasT R.ts c.tenant=b:=⟨_,rfl⟩
  rw [hbh] at hl0
  have hlen:(inTA R.a.cs c.tenant).length=(inTs R.cs c.tenant).length:=(z_vD R.cs c.tenant).symm
  refine z_aj g z_hg (by kernel_rfl) [⟨0,z_af,c.ss⟩] [rsF R] (subPerm [0]) ?_
  refine ⟨.slice R.tA R.ts.length R.tc,fun β w' hs=>bkc (rs_bk (hs.get 0 rfl)) rfl,?_⟩
  refine z_ae (v:= .bool bh) (fun β w' hs=>by rw [<-hbh];exact inT_c w' R.tA R.ts R.tc c.tenant (rs_ts (hs.get 0 rfl)) (by omega)) ?_
  refine ⟨subPerm [0],?_⟩
  cases bh with
  | true=>
   refine z_aa [] (fun β w' hs=>z_rb w' R c.tenant (hs.get 0 rfl) (hs.getLt 0 rfl) hln) ?_
   rintro v Fs ⟨A,c0,rfl,rfl⟩
   refine ⟨subPerm [0],?_⟩
   refine BIf.dec (fun h32=>?_) (fun h32=>?_)
   ·have h320:(32:Int)<=((inTs R.cs c.tenant).length:Int):=h32
    intro β w' hs
    exact (hs.keepB (List.nil_sublist _)).fin [0] (z_ar hw (by
     rw [hl0]
     show (if (true=false/\8<=R.ts.length) then _ else if 32<=(inTA R.a.cs c.tenant).length then _ else _)=_
     rw [if_neg (fun h=>by cases h.1),if_pos (by rw [hlen];omega)]))
   have h320: ¬(32:Int)<=((inTs R.cs c.tenant).length:Int):=h32
   have hr2:loadR R.a c.a=(0,{R.a with ts:=R.ts,cs:=insA R.a.cs c.a,last:=max R.last c.gen}):=by
    rw [hl0]
    show (if (true=false/\8<=R.ts.length) then _ else if 32<=(inTA R.a.cs c.tenant).length then _ else _)=_
    rw [if_neg (fun h=>by cases h.1),if_neg (by rw [hlen];omega)]
    rfl
   refine z_aj g z_cM (by kernel_rfl) [⟨0,z_af,c.ss⟩] [rsF R] (subPerm [0]) ?_
   refine ⟨.slice R.tA R.ts.length R.tc,fun β w' hs=>bkc (rs_bk (hs.get 0 rfl)) rfl,?_⟩
   refine z_ae (v:= .bool true) (fun β w' hs=>by rw [<-hbh];exact inT_c w' R.tA R.ts R.tc c.tenant (rs_ts (hs.get 0 rfl)) (by omega)) ?_
   refine ⟨subPerm [0],?_⟩
   refine z_aa [0] (fun β w' hs=>z_wC w' R c hw.tc hw.lc hw.ln hw.mem hc (hs.mem.take (js:=[0]) rfl)) ?_
   rintro v Fs ⟨R2,rfl,k2,k3,k4,k5,k6,k7,rfl⟩
   obtain ⟨z,hz⟩: ∃z:Int,((max R2.last c.gen:Nat):Int)=z:=⟨_,rfl⟩
   refine z_aj g z_cC (by kernel_rfl) [⟨0,z_af,c.ss⟩] [] (subPerm []) ?_
   refine ⟨.int .u64 (R2.last:Int),fun β w' hs=>by have h:=bkc (rs_bk (hs.get 0 rfl)) (o:=2) rfl;rw [k3] at h;exact h,?_⟩
   refine ⟨subPerm [],?_⟩
   refine ⟨z,by show max (R2.last:Int) (c.gen:Int)=z;rw [<-hz];omega,?_⟩
   refine ⟨[rsF {R2 with last:=max R2.last c.gen}],fun β w' hs=>by
    obtain ⟨w2,e1,e2⟩:=hs.rsLast _ hz
    exact ⟨w2,by rw [<-k3];exact e1,e2⟩,?_⟩
   refine ⟨subPerm [],?_⟩
   intro β w' hs
   have hl2:R2.last=R.last:=congrArg RA.last k2
   refine (hs.keepB (List.nil_sublist _)).fin [0] ⟨{R2 with last:=max R2.last c.gen},by rw [hr2];rfl,?_,k3,k4,k5,k6,k7,rfl⟩
   rw [hr2]
   show RA.mk R2.a.ts R2.a.cs (max R2.last c.gen) R2.a.reads=_
   rw [k2,hl2]
   rfl
  | false=>
   refine ⟨.slice R.tA R.ts.length R.tc,fun β w' hs=>bkc (rs_bk (hs.get 0 rfl)) rfl,?_⟩
   refine BIf.dec (fun h8=>?_) (fun h8=>?_)
   ·have h80:(8:Int)<=(R.ts.length:Int):=h8
    refine ⟨subPerm [0],?_⟩
    intro β w' hs
    exact (hs.keepB (List.nil_sublist _)).fin [0] (z_ar hw (by
     rw [hl0]
     show (if (false=false/\8<=R.ts.length) then _ else _)=_
     rw [if_pos ⟨rfl,by omega⟩]))
   have h80: ¬(8:Int)<=(R.ts.length:Int):=h8
   refine z_aa [] (fun β w' hs=>z_rb w' R c.tenant (hs.get 0 rfl) (hs.getLt 0 rfl) hln) ?_
   rintro v Fs ⟨A,c0,rfl,rfl⟩
   refine ⟨subPerm [0],?_⟩
   refine BIf.dec (fun h32=>?_) (fun h32=>?_)
   ·have h320:(32:Int)<=((inTs R.cs c.tenant).length:Int):=h32
    intro β w' hs
    exact (hs.keepB (List.nil_sublist _)).fin [0] (z_ar hw (by
     rw [hl0]
     show (if (false=false/\8<=R.ts.length) then _ else if 32<=(inTA R.a.cs c.tenant).length then _ else _)=_
     rw [if_neg (fun h=>by have:=h.2;omega),if_pos (by rw [hlen];omega)]))
   have h320: ¬(32:Int)<=((inTs R.cs c.tenant).length:Int):=h32
   have hr2:loadR R.a c.a=(0,{R.a with ts:=insT R.ts (rank R.ts c.tenant) c.tenant,cs:=insA R.a.cs c.a,last:=max R.last c.gen}):=by
    rw [hl0]
    show (if (false=false/\8<=R.ts.length) then _ else if 32<=(inTA R.a.cs c.tenant).length then _ else _)=_
    rw [if_neg (fun h=>by have:=h.2;omega),if_neg (by rw [hlen];omega)]
    rfl
   refine z_aj g z_cM (by kernel_rfl) [⟨0,z_af,c.ss⟩] [rsF R] (subPerm [0]) ?_
   refine ⟨.slice R.tA R.ts.length R.tc,fun β w' hs=>bkc (rs_bk (hs.get 0 rfl)) rfl,?_⟩
   refine z_ae (v:= .bool false) (fun β w' hs=>by rw [<-hbh];exact inT_c w' R.tA R.ts R.tc c.tenant (rs_ts (hs.get 0 rfl)) (by omega)) ?_
   refine ⟨subPerm [0],?_⟩
   refine z_aj g z_hb (by kernel_rfl) [⟨0,z_af,c.ss⟩] [] (subPerm []) ?_
   refine ⟨.slice R.tA R.ts.length R.tc,fun β w' hs=>bkc (rs_bk (hs.get 0 rfl)) rfl,?_⟩
   refine ⟨subPerm [],?_⟩
   refine z_aa [] (fun β w' hs=>put_c w' R.tA R.ts R.tc c.tenant (rs_ts (hs.get 0 rfl)) (by omega) hw.tc hw.ris) ?_
   rintro v Fs ⟨A1,c1,rfl,hc1,rfl⟩
   refine ⟨subPerm [],?_⟩
   refine ⟨[rsF {R with tA:=A1,tc:=c1,ts:=insT R.ts (rank R.ts c.tenant) c.tenant}],fun β w' hs=>hs.rsTs,?_⟩
   refine ⟨subPerm [],?_⟩
   refine z_aa [0] (fun β w' hs=>z_wC w' {R with tA:=A1,tc:=c1,ts:=insT R.ts (rank R.ts c.tenant) c.tenant} c hc1 hw.lc hw.ln hw.mem hc (hs.mem.take (js:=[0]) rfl)) ?_
   rintro v Fs ⟨R2,rfl,k2,k3,k4,k5,k6,k7,rfl⟩
   obtain ⟨z,hz⟩: ∃z:Int,((max R2.last c.gen:Nat):Int)=z:=⟨_,rfl⟩
   refine z_aj g z_cC (by kernel_rfl) [⟨0,z_af,c.ss⟩] [] (subPerm []) ?_
   refine ⟨.int .u64 (R2.last:Int),fun β w' hs=>by have h:=bkc (rs_bk (hs.get 0 rfl)) (o:=2) rfl;rw [k3] at h;exact h,?_⟩
   refine ⟨subPerm [],?_⟩
   refine ⟨z,by show max (R2.last:Int) (c.gen:Int)=z;rw [<-hz];omega,?_⟩
   refine ⟨[rsF {R2 with last:=max R2.last c.gen}],fun β w' hs=>by
    obtain ⟨w2,e1,e2⟩:=hs.rsLast _ hz
    exact ⟨w2,by rw [<-k3];exact e1,e2⟩,?_⟩
   refine ⟨subPerm [],?_⟩
   intro β w' hs
   have hl2:R2.last=R.last:=congrArg RA.last k2
   refine (hs.keepB (List.nil_sublist _)).fin [0] ⟨{R2 with last:=max R2.last c.gen},by rw [hr2];rfl,?_,k3,k4,k5,k6,k7,rfl⟩
   rw [hr2]
   show RA.mk R2.a.ts R2.a.cs (max R2.last c.gen) R2.a.reads=_
   rw [k2,hl2]
   rfl
end Go.Proofs.YtloeaiafphkjnaaGreatDoor.Sx
namespace Go.Proofs.YtloeaiafphkjnaaGreatDoor.Sx
open Go
def kl (d c:ACrd):Prop:=tlt d.tenant c.tenant\/(d.tenant=c.tenant/\tlt d.user c.user)
theorem ltB_iff {d c:ACrd}:ltB d c=true↔kl d c:=by
 unfold ltB kl
 simp only [Bool.or_eq_true,Bool.and_eq_true,decide_eq_true_eq]
theorem z_vs {c d:ACrd} (h:kl c d): ¬kl d c:=by
 rintro (k | ⟨k,k2⟩)<;>rcases h with h | ⟨h,h2⟩
 ·exact z_kb h k
 ·rw [h] at k;exact z_bd _ k
 ·rw [k] at h;exact z_bd _ h
 ·exact z_kb h2 k2
theorem z_vn {c d e:ACrd} (h:kl c d) (k:kl d e):kl c e:=by
 rcases h with h | ⟨h,h2⟩<;>rcases k with k | ⟨k,k2⟩
 ·exact .inl (z_bv h k)
 ·exact .inl (k▸h)
 ·exact .inl (h▸k)
 ·exact .inr ⟨h.trans k,z_bv h2 k2⟩
theorem z_yw (c d:ACrd) (h: ¬(c.tenant=d.tenant/\c.user=d.user)):kl c d\/kl d c:=by
 rcases z_oA c.tenant d.tenant with q | q | q
 ·exact .inl (.inl q)
 ·rcases z_oA c.user d.user with p | p | p
  ·exact .inl (.inr ⟨q,p⟩)
  ·exact absurd ⟨q,p⟩ h
  ·exact .inr (.inr ⟨q.symm,p⟩)
 ·exact .inr (.inl q)
structure CWf (t:ByteArray) (last:Nat) (c:ACrd):Prop where
 t:c.tenant=t
 n:nameA c.user=(c.user,0)
 r:c.roles.Pairwise tlt
 r8:c.roles.length<=8
 s:rightA c.sec=true
 g:c.gen<=last
theorem CWf.mono {t:ByteArray} {l l':Nat} {c:ACrd} (h:CWf t l c) (hl:l<=l'):CWf t l' c:=⟨h.t,h.n,h.r,h.r8,h.s,Nat.le_trans h.g hl⟩
structure TWf (last:Nat) (p:ByteArray×List ACrd):Prop where
 len:p.2.length<=32
 nd:(p.2.map (·.user)).Nodup
 cs: ∀c∈p.2,CWf p.1 last c
 sz:p.1.size<=32
theorem TWf.mono {l l':Nat} {p:ByteArray×List ACrd} (h:TWf l p) (hl:l<=l'):TWf l' p:=⟨h.len,h.nd,fun c hc=>(h.cs c hc).mono hl,h.sz⟩
structure Jn (X:ASto) (Y:RA):Prop where
 last:X.last=Y.last
 reads:X.reads=Y.reads
 great:X.last<=greatN
 nd:(X.ts.map (·.1)).Nodup
 len:X.ts.length<=8
 tw: ∀p∈X.ts,TWf X.last p
 tsr:Y.ts.Pairwise tlt
 tsp:Y.ts.Perm (X.ts.map (·.1))
 csr:Y.cs.Pairwise kl
 csp:Y.cs.Perm (X.ts.flatMap (·.2))
theorem aten_none: ∀ {ts:ATs} {t:ByteArray},aten ts t=none↔t∉ts.map (·.1)
 | [],t=>by simp [aten]
 | (k,us)::r,t=>by
  by_cases h:k=t
  ·simp [aten,h]
  ·have:=aten_none (ts:=r) (t:=t)
   have h2: ¬t=k:=fun q=>h q.symm
   simp only [aten,if_neg h,List.map_cons,List.mem_cons,not_or,h2,not_false_iff,true_and]
   exact this
theorem z_ej: ∀ {ts:ATs} {t:ByteArray} {us:List ACrd},aten ts t=some us-> ∃A B,ts=A++(t,us)::B/\(∀f,atenU ts t f=A++(t,f us)::B)/\atenD ts t=A++B
 | (k,us0)::r,t,us,h=>by
  by_cases hk:k=t
  ·simp only [aten,if_pos hk] at h
   obtain rfl:=Option.some.inj h
   subst hk
   exact ⟨[],r,rfl,fun f=>by simp [atenU],by simp [atenD]⟩
  ·simp only [aten,if_neg hk] at h
   obtain ⟨A,B,h1,h2,h3⟩:=z_ej h
   exact ⟨(k,us0)::A,B,by rw [h1];rfl,fun f=>by simp only [atenU,if_neg hk,h2 f];rfl,by simp only [atenD,if_neg hk,h3];rfl⟩
theorem ausr_none: ∀ {us:List ACrd} {n:ByteArray},ausr us n=none↔n∉us.map (·.user)
 | [],n=>by simp [ausr]
 | c::r,n=>by
  by_cases h:c.user=n
  ·simp [ausr,h]
  ·have:=ausr_none (us:=r) (n:=n)
   have h2: ¬n=c.user:=fun q=>h q.symm
   simp only [ausr,if_neg h,List.map_cons,List.mem_cons,not_or,h2,not_false_iff,true_and]
   exact this
theorem z_hC: ∀ {us:List ACrd} {n:ByteArray} {c:ACrd},ausr us n=some c->c.user=n/\ ∃U V,us=U++c::V/\(∀f,ausrU us n f=U++f c::V)/\ausrD us n=U++V
 | c0::r,n,c,h=>by
  by_cases hk:c0.user=n
  ·simp only [ausr,if_pos hk] at h
   obtain rfl:=Option.some.inj h
   exact ⟨hk,[],r,rfl,fun f=>by simp [ausrU,hk],by simp [ausrD,hk]⟩
  ·simp only [ausr,if_neg hk] at h
   obtain ⟨h0,U,V,h1,h2,h3⟩:=z_hC h
   exact ⟨h0,c0::U,V,by rw [h1];rfl,fun f=>by simp only [ausrU,if_neg hk,h2 f];rfl,by simp only [ausrD,if_neg hk,h3];rfl⟩
theorem z_rF {ts:ATs} (hn:(ts.map (·.1)).Nodup) {t:ByteArray} {us:List ACrd} (h:(t,us)∈ts):aten ts t=some us:=by
 induction ts with
 | nil=>cases h
 | cons p r ih=>
  obtain ⟨k,us0⟩:=p
  rw [List.map_cons,List.nodup_cons] at hn
  rcases List.mem_cons.1 h with h | h
  ·injection h with h1 h2
   simp [aten,h1,h2]
  ·have hk: ¬k=t:=fun q=>hn.1 (by rw [q];exact List.mem_map.2 ⟨_,h,rfl⟩)
   simp only [aten,if_neg hk]
   exact ih hn.2 h
theorem z_rg {us:List ACrd} (hn:(us.map (·.user)).Nodup) {c:ACrd} (h:c∈us):ausr us c.user=some c:=by
 induction us with
 | nil=>cases h
 | cons p r ih=>
  rw [List.map_cons,List.nodup_cons] at hn
  rcases List.mem_cons.1 h with h | h
  ·simp [ausr,h]
  ·have hk: ¬p.user=c.user:=fun q=>hn.1 (by show p.user∈_;rw [q];exact List.mem_map.2 ⟨_,h,rfl⟩)
   simp only [ausr,if_neg hk]
   exact ih hn.2 h
section
variable {X:ASto} {Y:RA}
theorem Jn.has (h:Jn X Y) (t:ByteArray):hasT Y.ts t=(aten X.ts t).isSome:=by
 rw [Bool.eq_iff_iff,hasT_iff,h.tsp.mem_iff]
 cases hq:aten X.ts t with
 | none=>simpa using aten_none.1 hq
 | some us=>
  have: ¬aten X.ts t=none:=by rw [hq];simp
  rw [aten_none] at this
  simpa using this
theorem Jn.tlen (h:Jn X Y):Y.ts.length=X.ts.length:=by rw [h.tsp.length_eq,List.length_map]
theorem Jn.mem (h:Jn X Y) {c:ACrd} (hc:c∈Y.cs): ∃us,aten X.ts c.tenant=some us/\c∈us/\(c.tenant,us)∈X.ts:=by
 obtain ⟨p,hp,hcp⟩:=List.mem_flatMap.1 (h.csp.mem_iff.1 hc)
 obtain ⟨k,us⟩:=p
 obtain rfl:c.tenant=k:=((h.tw _ hp).cs c hcp).t
 exact ⟨us,z_rF h.nd hp,hcp,hp⟩
theorem Jn.inT (h:Jn X Y) {t:ByteArray} {us:List ACrd} (ht:aten X.ts t=some us) {c:ACrd} (hc:c∈us):c∈Y.cs/\c.tenant=t/\(t,us)∈X.ts:=by
 obtain ⟨A,B,e,_⟩:=z_ej ht
 have hp:(t,us)∈X.ts:=by rw [e];simp
 exact ⟨h.csp.mem_iff.2 (List.mem_flatMap.2 ⟨_,hp,hc⟩),((h.tw _ hp).cs c hc).t,hp⟩
theorem Jn.wf (h:Jn X Y) {c:ACrd} (hc:c∈Y.cs):CWf c.tenant X.last c:=by
 obtain ⟨us,_,h2,h3⟩:=h.mem hc
 exact (h.tw _ h3).cs c h2
theorem z_xh {l:List ACrd} (hl:l.Pairwise kl) {i j:Nat} {c d:ACrd} (hi:l[i]?=some c) (hj:l[j]?=some d) (h1:c.tenant=d.tenant) (h2:c.user=d.user):i=j:=by
 obtain ⟨h3,h4⟩:=List.getElem?_eq_some_iff.1 hi
 obtain ⟨h5,h6⟩:=List.getElem?_eq_some_iff.1 hj
 have hno: ¬kl c d:=by
  rintro (q | ⟨_,q⟩)
  ·rw [h1] at q;exact z_bd _ q
  ·rw [h2] at q;exact z_bd _ q
 have hno2: ¬kl d c:=by
  rintro (q | ⟨_,q⟩)
  ·rw [h1] at q;exact z_bd _ q
  ·rw [h2] at q;exact z_bd _ q
 rcases Nat.lt_trichotomy i j with q | q | q
 ·have:=List.pairwise_iff_getElem.1 hl i j h3 h5 q
  rw [h4,h6] at this
  exact absurd this hno
 ·exact q
 ·have:=List.pairwise_iff_getElem.1 hl j i h5 h3 q
  rw [h4,h6] at this
  exact absurd this hno2
structure Both (X:ASto) (Y:RA) (t u:ByteArray) (c:ACrd) (A B:ATs) (U V P Q:List ACrd):Prop where
 ts:X.ts=A++(t,U++c::V)::B
 upd: ∀f:ACrd->ACrd,atenU X.ts t (fun us=>ausrU us (nameA u).1 f)=A++(t,U++f c::V)::B
 del:atenU X.ts t (fun us=>ausrD us (nameA u).1)=A++(t,U++V)::B
 cs:Y.cs=P++c::Q
 one:oneR Y.cs t u=some (P.length,c)
 n:nameA u=(c.user,0)
 wf:CWf t X.last c
theorem Jn.both (h:Jn X Y) {t u:ByteArray} {c:ACrd} (hc:aone X t u=some c): ∃A B U V P Q,Both X Y t u c A B U V P Q:=by
 unfold aone at hc
 split at hc
 ·rename_i he
  unfold aget at hc
  cases ht:aten X.ts t with
  | none=>rw [ht] at hc;cases hc
  | some us=>
   rw [ht] at hc
   have hc':ausr us (nameA u).1=some c:=hc
   obtain ⟨A,B,e1,e2,e3⟩:=z_ej ht
   obtain ⟨hu,U,V,f1,f2,f3⟩:=z_hC hc'
   have hcm:c∈us:=by rw [f1];simp
   obtain ⟨m1,m2,m3⟩:=h.inT ht hcm
   obtain ⟨k,hk⟩:=List.mem_iff_getElem?.1 m1
   obtain ⟨hkl,hke⟩:=List.getElem?_eq_some_iff.1 hk
   have hcs:Y.cs=Y.cs.take k++c::Y.cs.drop (k+1):=by
    rw [<-hke,List.getElem_cons_drop,List.take_append_drop]
   have hone:oneR Y.cs t u=some (k,c):=by
    have hf:fndR Y.cs t u=some k:=by
     unfold fndR
     rw [if_pos he,List.findIdx?_eq_some_iff_getElem]
     refine ⟨hkl,?_,fun j hj=>?_⟩
     ·rw [hke,m2,hu];simp
     ·intro q
      simp only [Bool.and_eq_true,decide_eq_true_eq] at q
      have:=z_xh h.csr (List.getElem?_eq_getElem (show j<Y.cs.length by omega)) hk (by rw [q.1,m2]) (by rw [q.2,hu])
      omega
    unfold oneR
    rw [hf]
    simp only [hk]
   refine ⟨A,B,U,V,Y.cs.take k,Y.cs.drop (k+1),by rw [<-f1];exact e1,fun f=>by rw [e2,f2],by rw [e2,f3],hcs,?_,?_,(h.tw _ m3).cs c hcm⟩
   ·rw [hone,List.length_take,Nat.min_eq_left (Nat.le_of_lt hkl)]
   ·rw [hu,<-he]
 ·cases hc
theorem Jn.neither (h:Jn X Y) {t u:ByteArray} (hc:aone X t u=none):oneR Y.cs t u=none:=by
 have hf:fndR Y.cs t u=none:=by
  unfold fndR
  split
  ·rename_i he
   rw [List.findIdx?_eq_none_iff]
   intro d hd
   rw [Bool.eq_false_iff]
   intro q
   simp only [Bool.and_eq_true,decide_eq_true_eq] at q
   obtain ⟨us,h1,h2,h3⟩:=h.mem hd
   unfold aone at hc
   rw [if_pos he] at hc
   unfold aget at hc
   rw [<-q.1,h1] at hc
   have hc':ausr us (nameA u).1=none:=hc
   rw [<-q.2,z_rg (h.tw _ h3).nd h2] at hc'
   cases hc'
  ·rfl
 unfold oneR
 rw [hf]
theorem Jn.put (h:Jn X Y) {t u:ByteArray} {c c':ACrd} {A B:ATs} {U V P Q:List ACrd} (b:Both X Y t u c A B U V P Q) {L:Nat} (hL:X.last<=L) (hg:L<=greatN) (hu:c'.user=c.user) (hc:CWf t L c'):
  Jn {X with ts:=A++(t,U++c'::V)::B,last:=L} {Y with cs:=P++c'::Q,last:=L}:=by
 have e1:=b.ts
 have e2:=b.cs
 have hm:(A++(t,U++c'::V)::B).map (·.1)=X.ts.map (·.1):=by rw [e1];simp
 refine ⟨rfl,h.reads,hg,by rw [hm];exact h.nd,?_,?_,h.tsr,by rw [hm];exact h.tsp,?_,?_⟩
 ·have:=h.len;rw [e1] at this;simpa using this
 ·intro p hp
  rcases List.mem_append.1 hp with hp | hp
  ·exact (h.tw p (by rw [e1];exact List.mem_append_left _ hp)).mono hL
  ·rcases List.mem_cons.1 hp with rfl | hp
   ·have hw:=h.tw (t,U++c::V) (by rw [e1];simp)
    refine ⟨by have:=hw.len;simpa using this,by have:=hw.nd;simpa [hu] using this,fun d hd=>?_,hw.sz⟩
    rcases List.mem_append.1 hd with hd | hd
    ·exact (hw.cs d (List.mem_append_left _ hd)).mono hL
    ·rcases List.mem_cons.1 hd with rfl | hd
     ·exact hc
     ·exact (hw.cs d (List.mem_append_right _ (List.mem_cons_of_mem _ hd))).mono hL
   ·exact (h.tw p (by rw [e1];exact List.mem_append_right _ (List.mem_cons_of_mem _ hp))).mono hL
 ·have hs:=h.csr
  rw [e2] at hs
  have ht:c'.tenant=c.tenant:=hc.t.trans b.wf.t.symm
  rw [List.pairwise_append,List.pairwise_cons] at hs ⊢
  obtain ⟨s1,⟨s2,s3⟩,s4⟩:=hs
  refine ⟨s1,⟨fun d hd=>?_,s3⟩,fun d hd x hx=>?_⟩
  ·have:=s2 d hd
   unfold kl at this ⊢
   rw [ht,hu];exact this
  ·rcases List.mem_cons.1 hx with rfl | hx
   ·have:=s4 d hd c List.mem_cons_self
    unfold kl at this ⊢
    rw [ht,hu];exact this
   ·exact s4 d hd x (List.mem_cons_of_mem _ hx)
 ·have hp:=h.csp
  rw [e1,e2] at hp
  simp only [List.flatMap_append,List.flatMap_cons,List.append_assoc,List.cons_append] at hp ⊢
  have p1:(P++Q).Perm (A.flatMap (·.2)++(U++(V++B.flatMap (·.2)))):=by
   have q1:(c::(P++Q)).Perm (c::(A.flatMap (·.2)++(U++(V++B.flatMap (·.2))))):=by
    refine (List.perm_middle.symm.trans hp).trans ?_
    rw [<-List.append_assoc,<-List.append_assoc]
    exact List.perm_middle
   exact q1.cons_inv
  refine List.perm_middle.trans ((p1.cons c').trans ?_)
  rw [<-List.append_assoc,<-List.append_assoc (A.flatMap _) U]
  exact List.perm_middle.symm
theorem z_wV (P Q:List ACrd) (c d:ACrd):(P++c::Q).set P.length d=P++d::Q:=by
 rw [List.set_append_right _ _ (Nat.le_refl _),Nat.sub_self,List.set_cons_zero]
def Jn2 (r:Int×ASto) (q:Int×RA):Prop:=r.1=q.1/\Jn r.2 q.2
theorem Jn.set (h:Jn X Y) {t u:ByteArray} {c:ACrd} {A B:ATs} {U V P Q:List ACrd} (b:Both X Y t u c A B U V P Q) (f:ACrd->ACrd) (hu:(f c).user=c.user) (hc:CWf t X.last (f c)):
  Jn2 (if greatN<=X.last then (8,X) else (0,updU X t u f)) (setTR Y P.length (f c)):=by
 unfold setTR
 rw [<-h.last]
 split
 ·exact ⟨rfl,h⟩
 ·rename_i hg
  refine ⟨rfl,?_⟩
  have e:updU X t u f= {X with ts:=A++(t,U++ {f c with gen:=X.last+1}::V)::B,last:=X.last+1}:=by
   unfold updU
   rw [b.upd]
  show Jn (updU X t u f) {Y with cs:=Y.cs.set P.length {f c with gen:=X.last+1},last:=X.last+1}
  rw [e,b.cs,z_wV]
  exact h.put b (Nat.le_succ _) (by omega) hu ⟨hc.t,hc.n,hc.r,hc.r8,hc.s,Nat.le_refl _⟩
theorem Jn.revoke (h:Jn X Y) (t u:ByteArray) (on:Bool):Jn2 (revU X t u on) (revR Y t u on):=by
 unfold revU revR
 cases hc:aone X t u with
 | none=>rw [h.neither hc];exact ⟨rfl,h⟩
 | some c=>
  obtain ⟨A,B,U,V,P,Q,b⟩:=h.both hc
  rw [b.one]
  exact h.set b (fun c=> {c with revoked:=on}) rfl ⟨b.wf.t,b.wf.n,b.wf.r,b.wf.r8,b.wf.s,b.wf.g⟩
theorem z_mU {l:List ByteArray} {x:ByteArray} (hs:l.Pairwise tlt): ∀k y,l[k]?=some y->(k<rank l x↔tlt y x):=by
 intro k y hy
 have hkl:=(List.getElem?_eq_some_iff.1 hy).1
 induction l generalizing k with
 | nil=>cases hkl
 | cons z r ih=>
  rw [List.pairwise_cons] at hs
  cases k with
  | zero=>
   obtain rfl:z=y:=by simpa using hy
   unfold rank
   by_cases h:tlt z x
   ·simp [h]
   ·have:r.filter (fun y=>decide (tlt y x))=[]:=by
     rw [List.filter_eq_nil_iff]
     intro a ha q
     exact h (z_bv (hs.1 a ha) (of_decide_eq_true q))
    simp [h,this]
  | succ k=>
   have hy':r[k]?=some y:=by simpa using hy
   have hkr:=(List.getElem?_eq_some_iff.1 hy').1
   have h2:=ih hs.2 k hy' hkr
   by_cases h:tlt z x
   ·have e:rank (z::r) x=rank r x+1:=by unfold rank;simp [h]
    rw [e]
    exact (Nat.succ_lt_succ_iff).trans h2
   ·have h3: ¬tlt y x:=fun q=>h (z_bv (hs.1 y (List.mem_of_getElem? hy')) q)
    have:r.filter (fun y=>decide (tlt y x))=[]:=by
     rw [List.filter_eq_nil_iff]
     intro a ha q
     exact h (z_bv (hs.1 a ha) (of_decide_eq_true q))
    have e:rank (z::r) x=0:=by unfold rank;simp [h,this]
    rw [e]
    constructor
    ·intro q;omega
    ·intro q;exact absurd q h3
theorem z_px (l:List ByteArray) (i:Nat) (x:ByteArray):(insT l i x).Perm (x::l):=by
 unfold insT
 refine List.perm_middle.trans ?_
 rw [List.take_append_drop]
theorem z_rh {l:List ByteArray} {x:ByteArray} (hs:l.Pairwise tlt) (hx:x∉l):(insT l (rank l x) x).Pairwise tlt:=by
 unfold insT
 have h0:=hs
 rw [<-List.take_append_drop (rank l x) l,List.pairwise_append] at h0
 obtain ⟨s1,s2,s3⟩:=h0
 have hlt: ∀y∈l.take (rank l x),tlt y x:=by
  intro y hy
  obtain ⟨k,hk⟩:=List.mem_iff_getElem?.1 hy
  rw [List.getElem?_take] at hk
  split at hk
  ·rename_i hlt
   exact (z_mU hs k y hk).1 hlt
  ·cases hk
 have hgt: ∀y∈l.drop (rank l x),tlt x y:=by
  intro y hy
  obtain ⟨k,hk⟩:=List.mem_iff_getElem?.1 hy
  rw [List.getElem?_drop] at hk
  have h1: ¬tlt y x:=fun q=>by
   have:=(z_mU hs _ y hk).2 q
   omega
  rcases z_oA x y with q | q | q
  ·exact q
  ·exact absurd (q▸List.mem_of_getElem? hk) hx
  ·exact absurd q h1
 rw [List.pairwise_append,List.pairwise_cons]
 refine ⟨s1,⟨hgt,s2⟩,fun a ha b hb=>?_⟩
 rcases List.mem_cons.1 hb with rfl | hb
 ·exact hlt a ha
 ·exact s3 a ha b hb
theorem Jn.grant (h:Jn X Y) (t u role:ByteArray):Jn2 (grantG X t u role) (grantR Y t u role false):=by
 unfold grantG grantR
 cases hc:aone X t u with
 | none=>rw [h.neither hc];exact ⟨rfl,h⟩
 | some c=>
  obtain ⟨A,B,U,V,P,Q,b⟩:=h.both hc
  rw [b.one]
  simp only [Bool.false_eq_true,if_false]
  by_cases hp:plainF role.data.toList=false
  ·rw [if_pos hp,if_pos hp];exact ⟨rfl,h⟩
  ·rw [if_neg hp,if_neg hp]
   by_cases ha:hasT c.roles role=true
   ·rw [if_pos ha,if_pos ha];exact ⟨rfl,h⟩
   ·rw [if_neg ha,if_neg ha]
    by_cases h8:8<=c.roles.length
    ·rw [if_pos h8,if_pos h8];exact ⟨rfl,h⟩
    ·rw [if_neg h8,if_neg h8]
     have hx:role∉c.roles:=fun q=>ha (hasT_iff.2 q)
     refine h.set b (fun c=> {c with roles:=insT c.roles (rank c.roles role) role}) rfl ⟨b.wf.t,b.wf.n,z_rh b.wf.r hx,?_,b.wf.s,b.wf.g⟩
     show (insT c.roles (rank c.roles role) role).length<=8
     rw [(z_px _ _ _).length_eq,List.length_cons]
     omega
theorem Jn.drop (h:Jn X Y) (t u:ByteArray):Jn2 (dropU X t u) (dropR Y t u):=by
 unfold dropU dropR
 cases hc:aone X t u with
 | none=>rw [h.neither hc];exact ⟨rfl,h⟩
 | some c=>
  obtain ⟨A,B,U,V,P,Q,b⟩:=h.both hc
  rw [b.one]
  refine ⟨rfl,?_⟩
  have e1:=b.ts
  have e2:=b.cs
  show Jn {X with ts:=atenU X.ts t (fun us=>ausrD us (nameA u).1)} {Y with cs:=Y.cs.take P.length++Y.cs.drop (P.length+1)}
  have e3:Y.cs.take P.length++Y.cs.drop (P.length+1)=P++Q:=by rw [e2];simp
  rw [b.del,e3]
  have hm:(A++(t,U++V)::B).map (·.1)=X.ts.map (·.1):=by rw [e1];simp
  have hsub:List.Sublist (U++V) (U++c::V):=(List.sublist_cons_self _ _).append_left _
  refine ⟨h.last,h.reads,h.great,by rw [hm];exact h.nd,?_,?_,h.tsr,by rw [hm];exact h.tsp,?_,?_⟩
  ·have:=h.len;rw [e1] at this;simpa using this
  ·intro p hp
   rcases List.mem_append.1 hp with hp | hp
   ·exact h.tw p (by rw [e1];exact List.mem_append_left _ hp)
   ·rcases List.mem_cons.1 hp with rfl | hp
    ·have hw:=h.tw (t,U++c::V) (by rw [e1];simp)
     exact ⟨Nat.le_trans hsub.length_le hw.len,hw.nd.sublist (hsub.map _),fun d hd=>hw.cs d (hsub.subset hd),hw.sz⟩
    ·exact h.tw p (by rw [e1];exact List.mem_append_right _ (List.mem_cons_of_mem _ hp))
  ·have hs:=h.csr
   rw [e2] at hs
   exact hs.sublist ((List.sublist_cons_self _ _).append_left _)
  ·have hp:=h.csp
   rw [e1,e2] at hp
   simp only [List.flatMap_append,List.flatMap_cons,List.append_assoc,List.cons_append] at hp ⊢
   have q1:(c::(P++Q)).Perm (c::(A.flatMap (·.2)++(U++(V++B.flatMap (·.2))))):=by
    refine (List.perm_middle.symm.trans hp).trans ?_
    rw [<-List.append_assoc,<-List.append_assoc]
    exact List.perm_middle
   exact q1.cons_inv
theorem Jn.raise (h:Jn X Y) (n:Nat):Jn2 (raiseA X n) (raiseTR Y n):=by
 unfold raiseA raiseTR
 split
 ·exact ⟨rfl,h⟩
 ·have:=h.great
  refine ⟨rfl,by show max X.last n=max Y.last n;rw [h.last],h.reads,by show max X.last n<=_;omega,h.nd,h.len,fun p hp=>(h.tw p hp).mono (by show X.last<=max X.last n;omega),h.tsr,h.tsp,h.csr,h.csp⟩
theorem z_lw {t:ByteArray} (h:plainF t.data.toList=true):t.size<=32:=by
 unfold plainF at h
 simp only [Bool.and_eq_true,decide_eq_true_eq] at h
 exact h.2.2
theorem Jn.tend (h:Jn X Y) {t:ByteArray} (ht:aten X.ts t=none) (hsz:t.size<=32) (h8:X.ts.length<8) (us:List ACrd) (hw:TWf X.last (t,us)) (cs:List ACrd) (hs:cs.Pairwise kl) (hp:cs.Perm (X.ts.flatMap (·.2)++us)):
  Jn {X with ts:=X.ts++[(t,us)]} {Y with ts:=insT Y.ts (rank Y.ts t) t,cs:=cs}:=by
 have hno:=aten_none.1 ht
 refine ⟨h.last,h.reads,h.great,?_,by rw [List.length_append];show X.ts.length+1<=8;omega,fun p hp=>?_,z_rh h.tsr (fun q=>hno (h.tsp.mem_iff.1 q)),?_,hs,by simpa [List.flatMap_append] using hp⟩
 ·rw [List.map_append,List.nodup_append]
  refine ⟨h.nd,by simp,fun a ha b hb=>?_⟩
  obtain rfl:=List.mem_singleton.1 hb
  exact fun q=>hno (q▸ha)
 ·rcases List.mem_append.1 hp with hp | hp
  ·exact h.tw p hp
  ·obtain rfl:=List.mem_singleton.1 hp
   exact hw
 ·rw [List.map_append]
  exact (z_px _ _ _).trans ((h.tsp.cons t).trans (List.perm_append_singleton t _).symm)
theorem Jn.addT (h:Jn X Y) (t:ByteArray):Jn2 (addT X t) (addTR Y t):=by
 unfold Sx.addT addTR
 rw [h.has,h.tlen]
 by_cases hp:plainF t.data.toList=false
 ·rw [if_pos hp,if_pos hp];exact ⟨rfl,h⟩
 ·rw [if_neg hp,if_neg hp]
  by_cases ha:(aten X.ts t).isSome=true
  ·rw [if_pos ha,if_pos ha];exact ⟨rfl,h⟩
  ·rw [if_neg ha,if_neg ha]
   by_cases h8:8<=X.ts.length
   ·rw [if_pos h8,if_pos h8];exact ⟨rfl,h⟩
   ·rw [if_neg h8,if_neg h8]
    have hsz:=z_lw (t:=t) (by simpa using hp)
    have ht:aten X.ts t=none:=by
     cases hq:aten X.ts t with
     | none=>rfl
     | some us=>rw [hq] at ha;exact absurd rfl ha
    exact ⟨rfl,h.tend ht hsz (by omega) [] ⟨Nat.zero_le _,List.nodup_nil,fun c hc=>(by cases hc),hsz⟩ Y.cs h.csr (by rw [List.append_nil];exact h.csp)⟩
theorem z_qz {ts:ATs} (hn:(ts.map (·.1)).Nodup) {last:Nat} (hw: ∀p∈ts,TWf last p) (t:ByteArray):(ts.flatMap (·.2)).filter (fun c=>decide (c.tenant=t))=(aten ts t).getD []:=by
 induction ts with
 | nil=>rfl
 | cons p r ih=>
  obtain ⟨k,us⟩:=p
  rw [List.map_cons,List.nodup_cons] at hn
  have hk:=hw (k,us) List.mem_cons_self
  have hr:=fun q hq=>hw q (List.mem_cons_of_mem (k,us) hq)
  rw [List.flatMap_cons,List.filter_append,ih hn.2 hr]
  by_cases h:k=t
  ·subst h
   have h2:aten r k=none:=aten_none.2 hn.1
   rw [h2]
   simp only [aten,if_true,Option.getD_none,Option.getD_some,List.append_nil]
   exact List.filter_eq_self.2 fun c hc=>decide_eq_true (hk.cs c hc).t
  ·have:us.filter (fun c=>decide (c.tenant=t))=[]:=List.filter_eq_nil_iff.2 fun c hc q=>h ((hk.cs c hc).t.symm.trans (of_decide_eq_true q))
   simp only [aten,if_neg h,this,List.nil_append]
theorem Jn.inTl (h:Jn X Y) (t:ByteArray):(inTA Y.cs t).length=((aten X.ts t).getD []).length:=by
 unfold inTA
 rw [(h.csp.filter _).length_eq,z_qz h.nd h.tw]
theorem z_vo {ts:ATs} (hn:(ts.map (·.1)).Nodup) {last:Nat} (hw: ∀p∈ts,TWf last p) (t:ByteArray):(ts.flatMap (·.2)).filter (fun c=>!decide (c.tenant=t))=(atenD ts t).flatMap (·.2):=by
 induction ts with
 | nil=>rfl
 | cons p r ih=>
  obtain ⟨k,us⟩:=p
  rw [List.map_cons,List.nodup_cons] at hn
  have hk:=hw (k,us) List.mem_cons_self
  have hr:=fun q hq=>hw q (List.mem_cons_of_mem (k,us) hq)
  rw [List.flatMap_cons,List.filter_append]
  by_cases h:k=t
  ·subst h
   have:us.filter (fun c=>!decide (c.tenant=k))=[]:=List.filter_eq_nil_iff.2 fun c hc q=>by simp [(hk.cs c hc).t] at q
   simp only [atenD,if_true,this,List.nil_append]
   refine List.filter_eq_self.2 fun c hc=>?_
   obtain ⟨p,hp,hcp⟩:=List.mem_flatMap.1 hc
   have h1:=((hr p hp).cs c hcp).t
   have: ¬c.tenant=k:=fun q=>hn.1 (List.mem_map.2 ⟨p,hp,h1.symm.trans q⟩)
   simpa using this
  ·have:us.filter (fun c=>!decide (c.tenant=t))=us:=List.filter_eq_self.2 fun c hc=>by simp [(hk.cs c hc).t,h]
   simp only [atenD,if_neg h,this,List.flatMap_cons,ih hn.2 hr]
theorem Jn.dropT (h:Jn X Y) (t:ByteArray):Jn2 (dropT X t) (dropTR Y t):=by
 unfold Sx.dropT dropTR
 rw [h.has]
 cases ht:aten X.ts t with
 | none=>exact ⟨rfl,h⟩
 | some us=>
  refine ⟨rfl,?_⟩
  obtain ⟨A,B,e1,e2,e3⟩:=z_ej ht
  show Jn {X with ts:=atenD X.ts t} {Y with ts:=wout Y.ts t,cs:=Y.cs.filter fun c=>!decide (c.tenant=t)}
  have hsub:List.Sublist (A++B) X.ts:=by rw [e1];exact (List.sublist_cons_self _ _).append_left _
  refine ⟨h.last,h.reads,h.great,by rw [e3];exact h.nd.sublist (hsub.map _),by rw [e3];exact Nat.le_trans hsub.length_le h.len,fun p hp=>?_,h.tsr.sublist List.filter_sublist,?_,h.csr.sublist List.filter_sublist,?_⟩
  ·have hp':p∈A++B:=by rw [<-e3];exact hp
   exact h.tw p (hsub.subset hp')
  ·rw [e3]
   unfold wout
   refine (h.tsp.filter _).trans ?_
   have hn:=h.nd
   rw [e1,List.map_append,List.map_cons,List.filter_append,List.filter_cons]
   rw [e1,List.map_append,List.map_cons,List.nodup_append,List.nodup_cons] at hn
   obtain ⟨n1,⟨n2,n3⟩,n4⟩:=hn
   have f1:(A.map (·.1)).filter (fun y=>!decide (y=t))=A.map (·.1):=List.filter_eq_self.2 fun y hy=>by
    have:=n4 y hy t List.mem_cons_self
    simpa using this
   have f2:(B.map (·.1)).filter (fun y=>!decide (y=t))=B.map (·.1):=List.filter_eq_self.2 fun y hy=>by
    have: ¬y=t:=fun q=>n2 (q▸hy)
    simpa using this
   rw [f1,f2]
   simp
  ·show (Y.cs.filter fun c=>!decide (c.tenant=t)).Perm ((atenD X.ts t).flatMap (·.2))
   rw [<-z_vo h.nd h.tw t]
   exact h.csp.filter _
theorem z_hR (cs:List ACrd) (c:ACrd):(insA cs c).Perm (c::cs):=by
 unfold insA
 refine List.perm_middle.trans ?_
 rw [List.takeWhile_append_dropWhile]
theorem z_oZ: ∀ {cs:List ACrd} {c:ACrd},cs.Pairwise kl->(∀d∈cs,¬(d.tenant=c.tenant/\d.user=c.user))->(insA cs c).Pairwise kl
 | [],c,_,_=>by simp [insA]
 | d::r,c,hs,hn=>by
  rw [List.pairwise_cons] at hs
  have ih:=z_oZ hs.2 (fun x hx=>hn x (List.mem_cons_of_mem _ hx))
  by_cases h:ltB d c=true
  ·have e:insA (d::r) c=d::insA r c:=by unfold insA;simp [h]
   rw [e,List.pairwise_cons]
   refine ⟨fun x hx=>?_,ih⟩
   rcases List.mem_cons.1 ((z_hR r c).mem_iff.1 hx) with rfl | hx
   ·exact ltB_iff.1 h
   ·exact hs.1 x hx
  ·have e:insA (d::r) c=c::d::r:=by unfold insA;simp [h]
   have hcd:kl c d:=by
    rcases z_yw c d (fun q=>hn d List.mem_cons_self ⟨q.1.symm,q.2.symm⟩) with q | q
    ·exact q
    ·exact absurd (ltB_iff.2 q) h
   rw [e,List.pairwise_cons,List.pairwise_cons]
   refine ⟨fun x hx=>?_,hs⟩
   rcases List.mem_cons.1 hx with rfl | hx
   ·exact hcd
   ·exact z_vn hcd (hs.1 x hx)
theorem Jn.more (h:Jn X Y) {t:ByteArray} {us:List ACrd} (ht:aten X.ts t=some us) (h32:us.length<32) {L:Nat} (hL:X.last<=L) (hg:L<=greatN) {c:ACrd} (hc:CWf t L c) (hno:ausr us c.user=none):
  Jn {X with ts:=atenU X.ts t (fun us=>us++[c]),last:=L} {Y with cs:=insA Y.cs c,last:=L}:=by
 obtain ⟨A,B,e1,e2,e3⟩:=z_ej ht
 have hm:(A++(t,us++[c])::B).map (·.1)=X.ts.map (·.1):=by rw [e1];simp
 have hn:=ausr_none.1 hno
 rw [e2]
 refine ⟨rfl,h.reads,hg,by rw [hm];exact h.nd,?_,?_,h.tsr,by rw [hm];exact h.tsp,?_,?_⟩
 ·have:=h.len;rw [e1] at this;simpa using this
 ·intro p hp
  rcases List.mem_append.1 hp with hp | hp
  ·exact (h.tw p (by rw [e1];exact List.mem_append_left _ hp)).mono hL
  ·rcases List.mem_cons.1 hp with rfl | hp
   ·have hw:=h.tw (t,us) (by rw [e1];simp)
    refine ⟨by rw [List.length_append];show us.length+1<=32;omega,?_,fun d hd=>?_,hw.sz⟩
    ·rw [List.map_append,List.nodup_append]
     refine ⟨hw.nd,by simp,fun a ha b hb=>?_⟩
     obtain rfl:=List.mem_singleton.1 hb
     exact fun q=>hn (by have q':a=c.user:=q;rw [<-q'];exact ha)
    ·rcases List.mem_append.1 hd with hd | hd
     ·exact (hw.cs d hd).mono hL
     ·obtain rfl:=List.mem_singleton.1 hd
      exact hc
   ·exact (h.tw p (by rw [e1];exact List.mem_append_right _ (List.mem_cons_of_mem _ hp))).mono hL
 ·refine z_oZ h.csr fun d hd q=>?_
  obtain ⟨us',h1,h2,_⟩:=h.mem hd
  rw [q.1,hc.t,ht] at h1
  obtain rfl:=Option.some.inj h1
  exact hn (q.2▸List.mem_map.2 ⟨d,h2,rfl⟩)
 ·refine (z_hR _ _).trans ((h.csp.cons c).trans ?_)
  rw [e1]
  simp only [List.flatMap_append,List.flatMap_cons,List.append_assoc,List.cons_append,List.nil_append]
  rw [<-List.append_assoc,<-List.append_assoc]
  exact List.perm_middle.symm
theorem Jn.load (h:Jn X Y) (c:ACrd):Jn2 (loadA X c) (loadR Y c):=by
 unfold loadA loadR
 rw [h.has,h.inTl]
 by_cases hp:(plainF c.tenant.data.toList&&allPl c.roles)=false
 ·rw [if_pos hp,if_pos hp];exact ⟨rfl,h⟩
 ·rw [if_neg hp,if_neg hp]
  by_cases hf: ¬((nameA c.user).2=0/\(nameA c.user).1=c.user/\risB c.roles=true/\rightA c.sec=true/\1<=c.gen/\c.gen<=greatN)
  ·rw [if_pos hf,if_pos hf];exact ⟨rfl,h⟩
  ·rw [if_neg hf,if_neg hf]
   obtain ⟨f1,f2,f3,f4,f5,f6⟩:=Decidable.not_not.1 hf
   have hn:nameA c.user=(c.user,0):=Prod.ext f2 f1
   unfold risB at f3
   simp only [Bool.and_eq_true,decide_eq_true_eq] at f3
   have hgr:=h.great
   have hsz:c.tenant.size<=32:=z_lw (by
    have:(plainF c.tenant.data.toList&&allPl c.roles)=true:=by simpa using hp
    rw [Bool.and_eq_true] at this
    exact this.1)
   have hw: ∀L,c.gen<=L->CWf c.tenant L c:=fun L hL=>⟨rfl,hn,f3.1,f3.2,f4,hL⟩
   rw [<-h.last]
   have hget:aone X c.tenant c.user=(aten X.ts c.tenant).bind fun us=>ausr us c.user:=by
    unfold aone aget
    rw [if_pos f1,f2]
   cases ht:aten X.ts c.tenant with
   | none=>
    rw [ht] at hget
    rw [h.neither hget,h.tlen]
    simp only [Option.isSome_none,Bool.false_eq_true,true_and,if_false,Option.getD_none,List.length_nil]
    by_cases h8:8<=X.ts.length
    ·rw [if_pos h8,if_pos h8];exact ⟨rfl,h⟩
    ·rw [if_neg h8,if_neg h8,if_neg (by decide)]
     have h2:Jn {X with last:=max X.last c.gen} {Y with last:=max X.last c.gen}:=⟨rfl,h.reads,by show max X.last c.gen<=_;omega,h.nd,h.len,fun p hp=>(h.tw p hp).mono (by show X.last<=max X.last c.gen;omega),h.tsr,h.tsp,h.csr,h.csp⟩
     refine ⟨rfl,h2.tend ht hsz (by show X.ts.length<8;omega) [c] ⟨by simp,by simp,fun d hd=>?_,hsz⟩ (insA Y.cs c) (z_oZ h.csr fun d hd q=>?_) ((z_hR _ _).trans ((h.csp.cons c).trans (List.perm_append_singleton c _).symm))⟩
     ·obtain rfl:=List.mem_singleton.1 hd
      exact hw _ (by show _<=max _ _;omega)
     ·obtain ⟨us',k1,_,_⟩:=h.mem hd
      rw [q.1,ht] at k1
      cases k1
   | some us=>
    rw [ht] at hget
    have hget':aone X c.tenant c.user=ausr us c.user:=hget
    cases ha:ausr us c.user with
    | some d=>
     obtain ⟨A,B,U,V,P,Q,b⟩:=h.both (hget'.trans ha)
     rw [b.one]
     simp only [ha]
     exact ⟨rfl,h⟩
    | none=>
     rw [h.neither (hget'.trans ha)]
     simp only [ha,Option.isSome_some,Bool.true_eq_false,false_and,if_false,Option.getD_some,if_true,Option.isSome_none,Bool.false_eq_true]
     by_cases h32:32<=us.length
     ·rw [if_pos h32,if_pos h32];exact ⟨rfl,h⟩
     ·rw [if_neg h32,if_neg h32]
      exact ⟨rfl,h.more ht (by omega) (L:=max X.last c.gen) (by omega) (by omega) (hw _ (by omega)) ha⟩
end
theorem z_cc (l:List ByteArray):(sortK l).Perm l:=by
 unfold sortK
 have h:=(List.mergeSort_perm (l.map fun s=>s.data.toList) leB).map mkS
 refine h.trans ?_
 rw [List.map_map]
 have:(mkS∘fun s:ByteArray=>s.data.toList)=id:=by
  funext s
  simp [mkS]
 rw [this,List.map_id]
theorem z_nn {l:List ByteArray} (hn:l.Nodup):(sortK l).Pairwise tlt:=by
 have h1:((l.map fun s=>s.data.toList).mergeSort leB).Pairwise (fun a b=>leB a b=true):=by
  refine List.pairwise_mergeSort ?_ ?_ _
  ·intro a b c h1 h2
   exact decide_eq_true (List.le_trans (of_decide_eq_true h1) (of_decide_eq_true h2))
  ·intro a b
   simp only [leB,Bool.or_eq_true,decide_eq_true_eq]
   exact List.le_total a b
 have h2:(sortK l).Pairwise (fun a b=> ¬tlt b a):=by
  unfold sortK
  rw [List.pairwise_map]
  refine h1.imp fun {a b} h q=>?_
  unfold tlt at q
  rw [z_kH,z_kH] at q
  exact List.not_lt.2 (of_decide_eq_true h) (by simpa [mkS] using q)
 have h3:(sortK l).Nodup:=(z_cc l).nodup_iff.2 hn
 refine (h2.and h3).imp fun {a b} h=>?_
 rcases z_oA a b with q | q | q
 ·exact q
 ·exact absurd q h.2
 ·exact absurd q h.1
theorem z_yF {l m:List ByteArray} (hl:l.Pairwise tlt) (hm:m.Pairwise tlt) (h:l.Perm m):l=m:=
 h.eq_of_pairwise (le:=tlt) (fun _ _ _ _ q1 q2=>absurd q2 (z_kb q1)) hl hm
def usL (us:List ACrd):List ACrd:=(sortK (us.map (·.user))).filterMap (ausr us)
def allU (ts:ATs):List ACrd:=(sortK (ts.map (·.1))).flatMap fun t=>usL ((aten ts t).getD [])
theorem z_m3 {us:List ACrd} (hn:(us.map (·.user)).Nodup): ∀(l:List ACrd),(∀c∈l,c∈us)->(l.map (·.user)).filterMap (ausr us)=l
 | [],_=>rfl
 | c::r,h=>by
  rw [List.map_cons,List.filterMap_cons,z_rg hn (h c List.mem_cons_self)]
  simp only
  rw [z_m3 hn r (fun x hx=>h x (List.mem_cons_of_mem _ hx))]
theorem z_kq {us:List ACrd} (hn:(us.map (·.user)).Nodup):(usL us).Perm us:=by
 unfold usL
 have h:=(z_cc (us.map (·.user))).filterMap (ausr us)
 rw [z_m3 hn us (fun _ h=>h)] at h
 exact h
theorem z_uw {us:List ACrd} (hn:(us.map (·.user)).Nodup):(usL us).Pairwise (fun a b=>tlt a.user b.user):=by
 unfold usL
 rw [List.pairwise_filterMap]
 refine (z_nn hn).imp fun {a b} h c hc d hd=>?_
 rw [(z_hC hc).1,(z_hC hd).1]
 exact h
theorem z_qb {α β:Type} {l m:List α} (f:α->List β) (h:l.Perm m):(l.flatMap f).Perm (m.flatMap f):=by
 induction h with
 | nil=>exact List.Perm.refl _
 | cons x _ ih=>rw [List.flatMap_cons,List.flatMap_cons];exact ih.append_left _
 | swap x y l=>
  simp only [List.flatMap_cons]
  rw [<-List.append_assoc,<-List.append_assoc]
  exact List.perm_append_comm.append_right _
 | trans _ _ ih1 ih2=>exact ih1.trans ih2
theorem z_kk {α β:Type} (f g:α->List β): ∀(l:List α),(∀x∈l,(f x).Perm (g x))->(l.flatMap f).Perm (l.flatMap g)
 | [],_=>List.Perm.refl _
 | x::r,h=>by
  rw [List.flatMap_cons,List.flatMap_cons]
  exact (h x List.mem_cons_self).append (z_kk f g r (fun y hy=>h y (List.mem_cons_of_mem _ hy)))
theorem Jn.names {X:ASto} {Y:RA} (h:Jn X Y):sortK (X.ts.map (·.1))=Y.ts:=z_yF (z_nn h.nd) h.tsr ((z_cc _).trans h.tsp.symm)
theorem Jn.all {X:ASto} {Y:RA} (h:Jn X Y):allU X.ts=Y.cs:=by
 have hget: ∀p∈X.ts,(aten X.ts p.1).getD []=p.2:=fun p hp=>by rw [z_rF h.nd (t:=p.1) (us:=p.2) hp];rfl
 refine List.Perm.eq_of_pairwise (le:=kl) (fun _ _ _ _ q1 q2=>absurd q2 (z_vs q1)) ?_ h.csr ?_
 ·unfold allU
  rw [List.pairwise_flatMap]
  have hmem: ∀t∈sortK (X.ts.map (·.1)),∀c∈usL ((aten X.ts t).getD []),c.tenant=t:=by
   intro t ht c hc
   obtain ⟨p,hp,rfl⟩:=List.mem_map.1 ((z_cc _).mem_iff.1 ht)
   rw [hget p hp] at hc
   exact ((h.tw p hp).cs c ((z_kq (h.tw p hp).nd).mem_iff.1 hc)).t
  refine ⟨fun t ht=>?_,?_⟩
  ·obtain ⟨p,hp,rfl⟩:=List.mem_map.1 ((z_cc _).mem_iff.1 ht)
   refine List.Pairwise.imp_of_mem (fun {a b} ha hb q=>?_) (by rw [hget p hp];exact z_uw (h.tw p hp).nd)
   exact .inr ⟨(hmem _ ht a ha).trans (hmem _ ht b hb).symm,q⟩
  ·refine List.Pairwise.imp_of_mem (fun {a b} ha hb q c hc d hd=>?_) (z_nn h.nd)
   exact .inl (by rw [hmem a ha c hc,hmem b hb d hd];exact q)
 ·refine List.Perm.trans ?_ h.csp.symm
  unfold allU
  refine (z_qb _ (z_cc _)).trans ?_
  rw [List.flatMap_map]
  exact z_kk _ _ _ fun p hp=>by rw [hget p hp];exact z_kq (h.tw p hp).nd
end Go.Proofs.YtloeaiafphkjnaaGreatDoor.Sx
