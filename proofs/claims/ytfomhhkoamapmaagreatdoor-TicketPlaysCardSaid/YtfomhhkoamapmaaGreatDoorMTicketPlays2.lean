/- Texts joined: SxUse, Tab, R1, SxCon, SxOpen, SxRange, SxIt, SxPlus, Be, U32, ShaL, NamL, SxArr. -/
import Derived.Test.YtfomhhkoamapmaaGreatDoorMTicketPlays1
import Derived.Test.YtfomhhkoamapmaaGreatDoorProg
import Derived.ChangeSlices
import Derived.WideShapes
set_option linter.unusedVariables false
set_option linter.unusedSimpArgs false
namespace Go.Proofs.YtfomhhkoamapmaaGreatDoor.Sx
open Go
theorem fmc {α:Type _} {p:α->Prop} {a:α} {l:List α} (h:p a/\ ∀x∈l,p x): ∀x∈a::l,p x:=List.forall_mem_cons.2 h
section
variable {cx:Cx} {β:Va} {n:Nat} {env:Env} {H:List Bk} {F:List Fact} {a:Act} {w w':World}
theorem Sat.get (h:Sat cx β n H F w) (j:Nat) {f:Fact} (hj:nth F j=some f):f.p w:=h.fact f (List.mem_of_getElem? (by rw [<-z_aX];exact hj))
theorem Sat.getLt (h:Sat cx β n H F w) (j:Nat) {f:Fact} (hj:nth F j=some f): ∀k,f.D k->k<w.heap.size:=h.flt f (List.mem_of_getElem? (by rw [<-z_aX];exact hj))
theorem Sat.getNew (h:Sat cx β n H F w) (j:Nat) {f:Fact} (hj:nth F j=some f) (ho:f.own=true): ∀k,f.D k->cx.S k\/cx.W0.heap.size<=k:=h.fown f (List.mem_of_getElem? (by rw [<-z_aX];exact hj)) ho
theorem Sat.startB (hw:cx.W0=w) (hn:cx.bs.length<=n) (hb: ∀i,i<cx.bs.length->β i=cx.bs.getD i 0) (hp:β.pins=[]:=by rfl) (hm:β.marks=[]:=by rfl) (hr:cx.rnd=none:=by rfl) (hpn:cx.pn=[]:=by rfl):Sat cx β n [] [] w:=by
 subst hw
 refine ⟨Chg.refl _ _,⟨hn,hb⟩,?_,?_,List.Pairwise.nil,?_,?_,?_,?_,?_,List.Pairwise.nil,?_,⟨by rw [hm];exact List.nodup_nil,?_⟩,⟨?_,?_⟩⟩
 ·intro x hx;cases hx
 ·intro x hx;cases hx
 ·intro x hx;cases hx
 ·intro x hx;cases hx
 ·intro x hx;cases hx
 ·intro x hx;cases hx
 ·intro x hx;cases hx
 ·intro x hx;rw [hp] at hx;cases hx
 ·intro x hx;rw [hm] at hx;cases hx
 ·intro x hx;rw [hpn] at hx;cases hx
 ·intro l hl;rw [hr] at hl;cases hl
theorem Sat.start (hw:cx.W0=w) (hbs:cx.bs=[]:=by rfl) (hp:β.pins=[]:=by rfl) (hm:β.marks=[]:=by rfl) (hr:cx.rnd=none:=by rfl) (hpn:cx.pn=[]:=by rfl):Sat cx β n [] [] w:=
 Sat.startB hw (by rw [hbs];exact Nat.zero_le _) (fun i hi=>by rw [hbs] at hi;cases hi) hp hm hr hpn
theorem Sat.old (h:Sat cx β n H F w) (f:Fact) (hp:f.p w) (hD: ∀k,f.D k->k<w.heap.size) (hb: ∀b∈H,¬f.D (β b.id)) (ho:f.own=true-> ∀k,f.D k->cx.S k\/cx.W0.heap.size<=k)
  (hs: ∀g∈F,f.own=true\/g.own=true-> ∀k,f.D k-> ¬g.D k) (hpp: ∀p∈β.pins,¬f.D p.1:=by (intro p hp;exact absurd hp List.not_mem_nil)):Sat cx β n H (f::F) w:=by
 refine ⟨h.chg,h.fix,h.blk,h.mine,h.inj,h.ltb,?_,?_,?_,?_,List.pairwise_cons.2 ⟨hs,h.sepf⟩,fun p hp'=>⟨(h.pin p hp').1,(h.pin p hp').2.1,?_⟩,h.mrk,h.rnd⟩<;>intro g hg<;>rcases List.mem_cons.1 hg with rfl | hg
 ·assumption
 ·exact h.fact g hg
 ·exact hD
 ·exact h.flt g hg
 ·exact hb
 ·exact h.sepb g hg
 ·exact ho
 ·exact h.fown g hg
 ·exact hpp p hp'
 ·exact (h.pin p hp').2.2 g hg
theorem Sat.sub (h:Sat cx β n H F w) (j:Nat) {f:Fact} (hj:nth F j=some f) (hfo:f.own=false) (g:Fact) (hgo:g.own=false) (hp:g.p w) (hD: ∀k,g.D k->f.D k):Sat cx β n H (g::F) w:=by
 have hm:f∈F:=List.mem_of_getElem? (by rw [<-z_aX];exact hj)
 refine h.old g hp (fun k hk=>h.flt f hm k (hD k hk)) (fun b hb q=>h.sepb f hm b hb (hD _ q)) (fun q=>by rw [hgo] at q;cases q) (fun g' hg' ho k hk hk'=>?_) (fun p hpp q=>(h.pin p hpp).2.2 f hm (hD _ q))
 have ho':g'.own=true:=ho.resolve_left (by rw [hgo];decide)
 rw [z_aX] at hj
 obtain ⟨i,hi⟩:=List.getElem?_of_mem hg'
 have hne:i≠j:=fun q=>by subst q;rw [hi] at hj;obtain rfl:=Option.some.inj hj;rw [hfo] at ho';cases ho'
 exact h.apart hi hj hne (.inl ho') k hk' (hD k hk)
theorem rd_lt {size:Nat} {A:Option Addr} {k:Nat} {xs:List Value} (h:Rd size A k xs w): ∀g,(rdF size A k xs).D g->g<w.heap.size:=by
 rintro g ⟨hk,ad,rfl,rfl⟩
 obtain ⟨ad',q,hc⟩:=h.2 (Nat.pos_of_mul_pos_right hk)
 obtain rfl:=Option.some.inj q
 have hl:0<xs.length:=by rw [h.1];exact hk
 have h0:=hc 0 _ (List.getElem?_eq_getElem hl)
 simp only [Addr.add,if_true] at h0
 rcases Nat.lt_or_ge ad.block w.heap.size with hlt | hge
 ·exact hlt
 ·simp [World.cell?,Array.getElem?_eq_none hge] at h0
theorem Sat.rd (h:Sat cx β n [] F w) (hF: ∀g∈F,g.own=false) {size:Nat} {A:Option Addr} {k:Nat} {xs:List Value} (hr:Rd size A k xs w) (hpp: ∀p∈β.pins,¬(rdF size A k xs).D p.1:=by (intro p hp;exact absurd hp List.not_mem_nil)):Sat cx β n [] (rdF size A k xs::F) w:=
 h.old _ hr (rd_lt hr) (fun _ hb=>by cases hb) (fun q=>by cases q) (fun g hg ho=>by
  rcases ho with q | q
  ·cases q
  ·rw [hF g hg] at q;cases q) hpp
end
def EntE (env:Env):Env->Prop
 | []=>True
 | (t,s)::r=>get env t=some s/\EntE env r
theorem EntE.get {env:Env}: ∀ {env':Env},EntE env env'-> ∀t s,get env' t=some s->get env t=some s
 | [],_,t,s,h=>by cases h
 | (u,s')::r,hE,t,s,h=>by
  by_cases hut:u=t
  ·subst hut
   rw [z_dW] at h
   obtain rfl:=Option.some.inj h
   exact hE.1
  ·rw [z_cq _ _ hut] at h
   exact EntE.get hE.2 t s h
def envLt (n:Nat):Env->Bool
 | []=>true
 | (_,s)::r=>match s.ltB n with | true=>envLt n r | false=>false
theorem z_q7 {n:Nat}: ∀ {env:Env},envLt n env=true-> ∀t s,get env t=some s->s.lt n
 | [],_,t,s,h=>by cases h
 | (u,s')::r,hE,t,s,h=>by
  simp only [envLt] at hE
  cases hl:s'.ltB n with
  | false=>rw [hl] at hE;cases hE
  | true=>
   rw [hl] at hE
   by_cases hut:u=t
   ·subst hut
    rw [z_dW] at h
    obtain rfl:=Option.some.inj h
    exact SV.ltB_lt hl
   ·rw [z_cq _ _ hut] at h
    exact z_q7 hE t s h
theorem Ent.mk' {cx:Cx} {n n':Nat} {env env':Env} {H H':List Bk} {F F':List Fact} (hE:EntE env env') (hl:envLt n' env'=true) (hs: ∀β w,Sat cx β n H F w->Sat cx β n' H' F' w):Ent cx n env H F n' env' H' F':=
 ⟨fun β a w h=>⟨β,rfl,rfl,fun t s ht=>h.ag t s (hE.get t s ht),h.size,h.df,z_q7 hl,hs β w h.sat⟩⟩
theorem Ent.same {cx:Cx} {n:Nat} {env env':Env} {H:List Bk} {F:List Fact} (hE:EntE env env') (hl:envLt n env'=true):Ent cx n env H F n env' H F:=Ent.mk' hE hl fun _ _ h=>h
theorem Sat.rowSet {cx:Cx} {β:Va} {n:Nat} {H:List Bk} {F:List Fact} {w:World} (h:Sat cx β n H F w) {j:Nat} {b k c e size:Nat} {xs us:List Value} {o:Nat}
  (hj:nth F j=some (rowF e size (.slice (some ⟨b,0,none⟩) k c) k xs)) (hlt:o+us.length<=k*size) (h1: ∀u∈us,u.oneCell'=true):
  ∃w',(storeCells ((⟨b,0,none⟩:Addr).add o) us 0).run cx.P w= .ok () w'/\Sat cx β n H (putAt F j (rowF e size (.slice (some ⟨b,0,none⟩) k c) k (putAll xs o us))) w':=by
 have hp:w.ownsRow 0 e size (.slice (some ⟨b,0,none⟩) k c) k xs:=h.get j hj
 rcases hp.2 with ⟨q,_⟩ | ⟨g,cap,cur,hv,_,hg,hnc,hcm,hcs,htake⟩
 ·cases q
 ·have hbg:b=g:=by injection hv with h1 h2 h3;injection h1 with h1;injection h1
  have hcc:c=cap:=by injection hv
  subst hbg hcc
  have hks:k*size<=c*size:=Nat.mul_le_mul_right _ hnc
  have hcl:cur.toList.length=c*size:=by simpa using hcs
  obtain ⟨w',e1,e2,e3,e4⟩:=z_c5 (P:=cx.P) b e us o 0 w cur.toList (by simpa using hg) h1 (by rw [hcl];omega)
  rw [z_bk,Nat.zero_add]
  refine ⟨w',e1,h.upd hj rfl (Chg.mono e3 (fun i _ q=>by subst q;rfl)) ?_ (fun q hq=> .inl hq)⟩
  refine ⟨by rw [z_cL];exact hp.1,.inr ⟨b,c,_,rfl,Nat.zero_le _,e2,hnc,hcm,by simp [z_cL,hcs],?_⟩⟩
  rw [Nat.add_zero,<-htake]
  have key: ∀(us l:List Value) (o m:Nat),o+us.length<=m->(putAll l o us).take m=putAll (l.take m) o us:=by
   intro us
   induction us with
   | nil=>intro l o m _;rfl
   | cons u us ih=>
    intro l o m hm
    simp only [List.length_cons] at hm
    rw [putAll,putAll,z_aT,z_aT,ih _ _ _ (by omega),List.take_set]
  simpa using key us cur.toList o (k*size) hlt
abbrev Bs (w:World) (A:Option Addr) (l:List UInt8):Prop:=Rd 1 A l.length (l.map byte) w
abbrev bsF (A:Option Addr) (l:List UInt8):Fact:=rdF 1 A l.length (l.map byte)
def lim:Nat:=70368744177664
theorem z_o8:lim=70368744177664:=rfl
theorem z_as (l:List UInt8): ∀u∈l.map byte,u.oneCell'=true:=by
 intro u hu
 obtain ⟨x,_,rfl⟩:=List.mem_map.1 hu
 rfl
theorem Bs.cell {w:World} {A:Option Addr} {l:List UInt8} (h:Bs w A l) {ad:Addr} (hA:A=some ad) {j:Nat} (hj:j<l.length):w.cell? (ad.add (j*1))=some (byte l[j]):=by
 obtain ⟨ad',q,hc⟩:=h.2 (by omega)
 rw [hA] at q
 obtain rfl:=Option.some.inj q
 rw [Nat.mul_one]
 exact hc j _ (by simp [List.getElem?_eq_getElem hj])
theorem Bs.addr {w:World} {A:Option Addr} {l:List UInt8} (h:Bs w A l) (hl:0<l.length): ∃ad,A=some ad:=by
 obtain ⟨ad',q,_⟩:=h.2 hl
 exact ⟨ad',q⟩
theorem Bs.nil (w:World) (A:Option Addr):Bs w A []:=⟨rfl,fun h=>by simp at h⟩
theorem Bs.cut {w:World} {A:Option Addr} {l:List UInt8} (h:Bs w A l) {c m i j:Nat} (hl:l.length<=c) (hm:m=c\/j<=m) (hij:i<=j) (hj:j<=l.length) (hmc:m<=c):Rd 1 (cutA A m i 1) (j - i) (((l.drop i).take (j - i)).map byte) w:=by
 refine ⟨by simp;omega,fun hp=>?_⟩
 obtain ⟨ad,rfl,hc⟩:=h.2 (by omega)
 have hne: ¬m=i:=by rcases hm with rfl | hm<;>omega
 refine ⟨ad.add (i*1),by simp [cutA,hne],fun k u hk=>?_⟩
 rw [z_mu,Nat.mul_one]
 refine hc (i+k) u ?_
 rw [<-hk]
 simp only [List.getElem?_map,List.getElem?_take,List.getElem?_drop]
 have hkl:k<j - i:=by
  have:=(List.getElem?_eq_some_iff.1 hk).1
  simp at this;omega
 simp [hkl]
theorem Bs.cutB {w:World} {A:Option Addr} {l m:List UInt8} (h:Bs w A l) {c i j:Nat} (hl:l.length<=c) (hij:i<=j) (hj:j<=l.length) (hm:(l.drop i).take (j - i)=m):Bs w (cutA A c i 1) m:=by
 have h1:=h.cut (c:=c) (m:=c) hl (.inl rfl) hij hj (Nat.le_refl _)
 have h2:m.length=j - i:=by rw [<-hm];simp;omega
 show Rd 1 _ m.length _ w
 rw [h2,<-hm]
 exact h1
def NewRow (w w':World) (A:Option Addr) (l:List UInt8) (c e:Nat):Prop:=
 l.length<=c/\c<=maxLen/\w'.ownsRow 0 e 1 (.slice A l.length c) l.length (l.map byte)/\ ∀k,Value.ownBlock (.slice A l.length c)=some k->w.heap.size<=k
abbrev browF (e:Nat) (A:Option Addr) (l:List UInt8) (c:Nat):Fact:=rowF e 1 (.slice A l.length c) l.length (l.map byte)
theorem NewRow.lt {w w':World} {A:Option Addr} {l:List UInt8} {c e:Nat} (h:NewRow w w' A l c e): ∀k,(browF e A l c).D k->w.heap.size<=k/\k<w'.heap.size:=fun k hk=>⟨h.2.2.2 k hk,(h.2.2.1.lt k hk).2⟩
section
variable {cx:Cx} {β:Va} {n:Nat} {env:Env} {H:List Bk} {F:List Fact} {a:Act} {w w':World}
theorem Sat.newRow (h:Sat cx β n H F w) (hS:cx.S=None_) (j:Nat) {A:Option Addr} {l:List UInt8} {c e:Nat} (hj:nth F j=some (browF e A l c)) (h1:l.length<=c) (h2:c<=maxLen):NewRow cx.W0 w A l c e:=by
 refine ⟨h1,h2,h.get j hj,fun k hk=>?_⟩
 rcases h.getNew j hj rfl k hk with q | q
 ·rw [hS] at q;exact q.elim
 ·exact q
end
theorem mx (a b:Nat):max (a:Int) b=((max a b:Nat):Int):=by omega
theorem wrap_i64 {x:Int} (h1: -9223372036854775808<=x) (h2:x<9223372036854775808):IntKind.i64.wrap x=x:=by rw [IntKind.wrap_i64];omega
end Go.Proofs.YtfomhhkoamapmaaGreatDoor.Sx
namespace Go.Proofs.YtfomhhkoamapmaaGreatDoor.Sx
open Go
noncomputable def ti3:TI:= {desc:= .int .i64,agg:=false,size:=1,bytes:=8,zero:=[.int .i64 0],fields:=[],ftys:=[]}
theorem ok3:TiOk Tryz.prog 3 ti3:=⟨by kernel_rfl,by kernel_rfl,rfl,by kernel_rfl,by kernel_rfl,by kernel_rfl⟩
noncomputable def ti4:TI:= {desc:= .bool,agg:=false,size:=1,bytes:=1,zero:=[.bool false],fields:=[],ftys:=[]}
theorem ok4:TiOk Tryz.prog 4 ti4:=⟨by kernel_rfl,by kernel_rfl,rfl,by kernel_rfl,by kernel_rfl,by kernel_rfl⟩
noncomputable def ti5:TI:= {desc:= .int .u8,agg:=false,size:=1,bytes:=1,zero:=[.int .u8 0],fields:=[],ftys:=[]}
theorem ok5:TiOk Tryz.prog 5 ti5:=⟨by kernel_rfl,by kernel_rfl,rfl,by kernel_rfl,by kernel_rfl,by kernel_rfl⟩
noncomputable def ti9:TI:= {desc:= .string,agg:=false,size:=1,bytes:=16,zero:=[.string ByteArray.empty],fields:=[],ftys:=[]}
theorem ok9:TiOk Tryz.prog 9 ti9:=⟨by kernel_rfl,by kernel_rfl,rfl,by kernel_rfl,by kernel_rfl,by kernel_rfl⟩
noncomputable def ti21:TI:= {desc:= .int .i32,agg:=false,size:=1,bytes:=4,zero:=[.int .i32 0],fields:=[],ftys:=[]}
theorem ok21:TiOk Tryz.prog 21 ti21:=⟨by kernel_rfl,by kernel_rfl,rfl,by kernel_rfl,by kernel_rfl,by kernel_rfl⟩
noncomputable def ti22:TI:= {desc:= .int .u64,agg:=false,size:=1,bytes:=8,zero:=[.int .u64 0],fields:=[],ftys:=[]}
theorem ok22:TiOk Tryz.prog 22 ti22:=⟨by kernel_rfl,by kernel_rfl,rfl,by kernel_rfl,by kernel_rfl,by kernel_rfl⟩
noncomputable def ti23:TI:= {desc:= .slice 53,agg:=false,size:=1,bytes:=24,zero:=[.slice none 0 0],fields:=[],ftys:=[]}
theorem ok23:TiOk Tryz.prog 23 ti23:=⟨by kernel_rfl,by kernel_rfl,rfl,by kernel_rfl,by kernel_rfl,by kernel_rfl⟩
noncomputable def ti25:TI:= {desc:= .pointer 77,agg:=false,size:=1,bytes:=8,zero:=[.pointer none],fields:=[],ftys:=[]}
theorem ok25:TiOk Tryz.prog 25 ti25:=⟨by kernel_rfl,by kernel_rfl,rfl,by kernel_rfl,by kernel_rfl,by kernel_rfl⟩
noncomputable def ti26:TI:= {desc:= .int .i64,agg:=false,size:=1,bytes:=8,zero:=[.int .i64 0],fields:=[],ftys:=[]}
theorem ok26:TiOk Tryz.prog 26 ti26:=⟨by kernel_rfl,by kernel_rfl,rfl,by kernel_rfl,by kernel_rfl,by kernel_rfl⟩
noncomputable def ti29:TI:= {desc:= .pointer 83,agg:=false,size:=1,bytes:=8,zero:=[.pointer none],fields:=[],ftys:=[]}
theorem ok29:TiOk Tryz.prog 29 ti29:=⟨by kernel_rfl,by kernel_rfl,rfl,by kernel_rfl,by kernel_rfl,by kernel_rfl⟩
noncomputable def ti31:TI:= {desc:= .slice 5,agg:=false,size:=1,bytes:=24,zero:=[.slice none 0 0],fields:=[],ftys:=[]}
theorem ok31:TiOk Tryz.prog 31 ti31:=⟨by kernel_rfl,by kernel_rfl,rfl,by kernel_rfl,by kernel_rfl,by kernel_rfl⟩
noncomputable def ti32:TI:= {desc:= .pointer 87,agg:=false,size:=1,bytes:=8,zero:=[.pointer none],fields:=[],ftys:=[]}
theorem ok32:TiOk Tryz.prog 32 ti32:=⟨by kernel_rfl,by kernel_rfl,rfl,by kernel_rfl,by kernel_rfl,by kernel_rfl⟩
noncomputable def ti35:TI:= {desc:= .pointer 48,agg:=false,size:=1,bytes:=8,zero:=[.pointer none],fields:=[],ftys:=[]}
theorem ok35:TiOk Tryz.prog 35 ti35:=⟨by kernel_rfl,by kernel_rfl,rfl,by kernel_rfl,by kernel_rfl,by kernel_rfl⟩
noncomputable def ti36:TI:= {desc:= .pointer 45,agg:=false,size:=1,bytes:=8,zero:=[.pointer none],fields:=[],ftys:=[]}
theorem ok36:TiOk Tryz.prog 36 ti36:=⟨by kernel_rfl,by kernel_rfl,rfl,by kernel_rfl,by kernel_rfl,by kernel_rfl⟩
noncomputable def ti37:TI:= {desc:= .pointer 89,agg:=false,size:=1,bytes:=8,zero:=[.pointer none],fields:=[],ftys:=[]}
theorem ok37:TiOk Tryz.prog 37 ti37:=⟨by kernel_rfl,by kernel_rfl,rfl,by kernel_rfl,by kernel_rfl,by kernel_rfl⟩
noncomputable def ti39:TI:= {desc:= .pointer 42,agg:=false,size:=1,bytes:=8,zero:=[.pointer none],fields:=[],ftys:=[]}
theorem ok39:TiOk Tryz.prog 39 ti39:=⟨by kernel_rfl,by kernel_rfl,rfl,by kernel_rfl,by kernel_rfl,by kernel_rfl⟩
noncomputable def ti40:TI:= {desc:= .slice 192,agg:=false,size:=1,bytes:=24,zero:=[.slice none 0 0],fields:=[],ftys:=[]}
theorem ok40:TiOk Tryz.prog 40 ti40:=⟨by kernel_rfl,by kernel_rfl,rfl,by kernel_rfl,by kernel_rfl,by kernel_rfl⟩
noncomputable def ti42:TI:= {desc:= .struct,agg:=true,size:=3,bytes:=40,zero:=[.bool false,.slice none 0 0,.bool false],fields:=[(0,1),(1,1),(2,1)],ftys:=[4,40,4]}
theorem ok42:TiOk Tryz.prog 42 ti42:=⟨by kernel_rfl,by kernel_rfl,rfl,by kernel_rfl,by kernel_rfl,by kernel_rfl⟩
noncomputable def ti43:TI:= {desc:= .slice 105,agg:=false,size:=1,bytes:=24,zero:=[.slice none 0 0],fields:=[],ftys:=[]}
theorem ok43:TiOk Tryz.prog 43 ti43:=⟨by kernel_rfl,by kernel_rfl,rfl,by kernel_rfl,by kernel_rfl,by kernel_rfl⟩
noncomputable def ti45:TI:= {desc:= .struct,agg:=true,size:=4,bytes:=48,zero:=[.pointer none,.int .u64 0,.int .u64 0,.slice none 0 0],fields:=[(0,1),(1,1),(2,1),(3,1)],ftys:=[37,22,22,43]}
theorem ok45:TiOk Tryz.prog 45 ti45:=⟨by kernel_rfl,by kernel_rfl,rfl,by kernel_rfl,by kernel_rfl,by kernel_rfl⟩
noncomputable def ti46:TI:= {desc:= .slice 9,agg:=false,size:=1,bytes:=24,zero:=[.slice none 0 0],fields:=[],ftys:=[]}
theorem ok46:TiOk Tryz.prog 46 ti46:=⟨by kernel_rfl,by kernel_rfl,rfl,by kernel_rfl,by kernel_rfl,by kernel_rfl⟩
noncomputable def ti48:TI:= {desc:= .struct,agg:=true,size:=5,bytes:=56,zero:=[.pointer none,.pointer none,.pointer none,.slice none 0 0,.int .u64 0],fields:=[(0,1),(1,1),(2,1),(3,1),(4,1)],ftys:=[32,25,36,46,22]}
theorem ok48:TiOk Tryz.prog 48 ti48:=⟨by kernel_rfl,by kernel_rfl,rfl,by kernel_rfl,by kernel_rfl,by kernel_rfl⟩
noncomputable def ti50:TI:= {desc:= .struct,agg:=true,size:=3,bytes:=48,zero:=[.string ByteArray.empty,.string ByteArray.empty,.string ByteArray.empty],fields:=[(0,1),(1,1),(2,1)],ftys:=[9,9,9]}
theorem ok50:TiOk Tryz.prog 50 ti50:=⟨by kernel_rfl,by kernel_rfl,rfl,by kernel_rfl,by kernel_rfl,by kernel_rfl⟩
noncomputable def ti51:TI:= {desc:= .int .u16,agg:=false,size:=1,bytes:=2,zero:=[.int .u16 0],fields:=[],ftys:=[]}
theorem ok51:TiOk Tryz.prog 51 ti51:=⟨by kernel_rfl,by kernel_rfl,rfl,by kernel_rfl,by kernel_rfl,by kernel_rfl⟩
noncomputable def ti53:TI:= {desc:= .struct,agg:=true,size:=10,bytes:=96,zero:=[.int .u8 0,.string ByteArray.empty,.string ByteArray.empty,.string ByteArray.empty,.int .u64 0,.int .u8 0,.bool false,.bool false,.string ByteArray.empty,.int .u16 0],fields:=[(0,1),(1,3),(4,1),(5,1),(6,1),(7,1),(8,1),(9,1)],ftys:=[5,50,22,5,4,4,9,51]}
theorem ok53:TiOk Tryz.prog 53 ti53:=⟨by kernel_rfl,by kernel_rfl,rfl,by kernel_rfl,by kernel_rfl,by kernel_rfl⟩
noncomputable def ti57:TI:= {desc:= .slice 22,agg:=false,size:=1,bytes:=24,zero:=[.slice none 0 0],fields:=[],ftys:=[]}
theorem ok57:TiOk Tryz.prog 57 ti57:=⟨by kernel_rfl,by kernel_rfl,rfl,by kernel_rfl,by kernel_rfl,by kernel_rfl⟩
noncomputable def ti60:TI:= {desc:= .other,agg:=false,size:=1,bytes:=8,zero:=[.nilFunc],fields:=[],ftys:=[]}
theorem ok60:TiOk Tryz.prog 60 ti60:=⟨by kernel_rfl,by kernel_rfl,rfl,by kernel_rfl,by kernel_rfl,by kernel_rfl⟩
noncomputable def ti67:TI:= {desc:= .struct,agg:=true,size:=8,bytes:=88,zero:=[.int .u64 0,.int .u64 0,.int .u64 0,.int .u64 0,.int .u64 0,.string ByteArray.empty,.string ByteArray.empty,.string ByteArray.empty],fields:=[(0,1),(1,1),(2,1),(3,1),(4,1),(5,3)],ftys:=[22,22,22,22,22,50]}
theorem ok67:TiOk Tryz.prog 67 ti67:=⟨by kernel_rfl,by kernel_rfl,rfl,by kernel_rfl,by kernel_rfl,by kernel_rfl⟩
noncomputable def ti75:TI:= {desc:= .map 22 31,agg:=false,size:=1,bytes:=8,zero:=[.map none],fields:=[],ftys:=[]}
theorem ok75:TiOk Tryz.prog 75 ti75:=⟨by kernel_rfl,by kernel_rfl,rfl,by kernel_rfl,by kernel_rfl,by kernel_rfl⟩
noncomputable def ti77:TI:= {desc:= .struct,agg:=true,size:=5,bytes:=56,zero:=[.pointer none,.slice none 0 0,.int .i64 0,.map none,.int .u64 0],fields:=[(0,1),(1,1),(2,1),(3,1),(4,1)],ftys:=[29,31,3,75,22]}
theorem ok77:TiOk Tryz.prog 77 ti77:=⟨by kernel_rfl,by kernel_rfl,rfl,by kernel_rfl,by kernel_rfl,by kernel_rfl⟩
noncomputable def ti80:TI:= {desc:= .map 9 3,agg:=false,size:=1,bytes:=8,zero:=[.map none],fields:=[],ftys:=[]}
theorem ok80:TiOk Tryz.prog 80 ti80:=⟨by kernel_rfl,by kernel_rfl,rfl,by kernel_rfl,by kernel_rfl,by kernel_rfl⟩
noncomputable def ti81:TI:= {desc:= .slice 152,agg:=false,size:=1,bytes:=24,zero:=[.slice none 0 0],fields:=[],ftys:=[]}
theorem ok81:TiOk Tryz.prog 81 ti81:=⟨by kernel_rfl,by kernel_rfl,rfl,by kernel_rfl,by kernel_rfl,by kernel_rfl⟩
noncomputable def ti83:TI:= {desc:= .struct,agg:=true,size:=4,bytes:=40,zero:=[.bool false,.bool false,.slice none 0 0,.map none],fields:=[(0,1),(1,1),(2,1),(3,1)],ftys:=[4,4,81,80]}
theorem ok83:TiOk Tryz.prog 83 ti83:=⟨by kernel_rfl,by kernel_rfl,rfl,by kernel_rfl,by kernel_rfl,by kernel_rfl⟩
noncomputable def ti84:TI:= {desc:= .map 22 22,agg:=false,size:=1,bytes:=8,zero:=[.map none],fields:=[],ftys:=[]}
theorem ok84:TiOk Tryz.prog 84 ti84:=⟨by kernel_rfl,by kernel_rfl,rfl,by kernel_rfl,by kernel_rfl,by kernel_rfl⟩
noncomputable def ti85:TI:= {desc:= .map 22 4,agg:=false,size:=1,bytes:=8,zero:=[.map none],fields:=[],ftys:=[]}
theorem ok85:TiOk Tryz.prog 85 ti85:=⟨by kernel_rfl,by kernel_rfl,rfl,by kernel_rfl,by kernel_rfl,by kernel_rfl⟩
noncomputable def ti87:TI:= {desc:= .struct,agg:=true,size:=5,bytes:=40,zero:=[.pointer none,.int .u64 0,.int .u64 0,.map none,.map none],fields:=[(0,1),(1,1),(2,1),(3,1),(4,1)],ftys:=[25,22,22,84,85]}
theorem ok87:TiOk Tryz.prog 87 ti87:=⟨by kernel_rfl,by kernel_rfl,rfl,by kernel_rfl,by kernel_rfl,by kernel_rfl⟩
noncomputable def ti89:TI:= {desc:= .struct,agg:=true,size:=5,bytes:=72,zero:=[.pointer none,.slice none 0 0,.int .i64 0,.slice none 0 0,.int .u64 0],fields:=[(0,1),(1,1),(2,1),(3,1),(4,1)],ftys:=[39,31,3,57,22]}
theorem ok89:TiOk Tryz.prog 89 ti89:=⟨by kernel_rfl,by kernel_rfl,rfl,by kernel_rfl,by kernel_rfl,by kernel_rfl⟩
noncomputable def ti92:TI:= {desc:= .struct,agg:=true,size:=8,bytes:=88,zero:=[.int .u64 0,.int .u64 0,.int .u64 0,.int .u64 0,.int .u64 0,.string ByteArray.empty,.string ByteArray.empty,.string ByteArray.empty],fields:=[(0,1),(1,1),(2,1),(3,1),(4,1),(5,3)],ftys:=[22,22,22,22,22,50]}
theorem ok92:TiOk Tryz.prog 92 ti92:=⟨by kernel_rfl,by kernel_rfl,rfl,by kernel_rfl,by kernel_rfl,by kernel_rfl⟩
noncomputable def ti105:TI:= {desc:= .struct,agg:=true,size:=3,bytes:=24,zero:=[.int .u64 0,.int .u64 0,.bool false],fields:=[(0,1),(1,1),(2,1)],ftys:=[22,22,4]}
theorem ok105:TiOk Tryz.prog 105 ti105:=⟨by kernel_rfl,by kernel_rfl,rfl,by kernel_rfl,by kernel_rfl,by kernel_rfl⟩
noncomputable def ti137:TI:= {desc:= .slice 31,agg:=false,size:=1,bytes:=24,zero:=[.slice none 0 0],fields:=[],ftys:=[]}
theorem ok137:TiOk Tryz.prog 137 ti137:=⟨by kernel_rfl,by kernel_rfl,rfl,by kernel_rfl,by kernel_rfl,by kernel_rfl⟩
noncomputable def ti142:TI:= {desc:= .pointer 144,agg:=false,size:=1,bytes:=8,zero:=[.pointer none],fields:=[],ftys:=[]}
theorem ok142:TiOk Tryz.prog 142 ti142:=⟨by kernel_rfl,by kernel_rfl,rfl,by kernel_rfl,by kernel_rfl,by kernel_rfl⟩
noncomputable def ti144:TI:= {desc:= .struct,agg:=true,size:=2,bytes:=32,zero:=[.slice none 0 0,.bool false],fields:=[(0,1),(1,1)],ftys:=[31,4]}
theorem ok144:TiOk Tryz.prog 144 ti144:=⟨by kernel_rfl,by kernel_rfl,rfl,by kernel_rfl,by kernel_rfl,by kernel_rfl⟩
noncomputable def ti150:TI:= {desc:= .slice 3,agg:=false,size:=1,bytes:=24,zero:=[.slice none 0 0],fields:=[],ftys:=[]}
theorem ok150:TiOk Tryz.prog 150 ti150:=⟨by kernel_rfl,by kernel_rfl,rfl,by kernel_rfl,by kernel_rfl,by kernel_rfl⟩
noncomputable def ti152:TI:= {desc:= .struct,agg:=true,size:=6,bytes:=112,zero:=[.int .i64 0,.slice none 0 0,.slice none 0 0,.int .i64 0,.slice none 0 0,.slice none 0 0],fields:=[(0,1),(1,1),(2,1),(3,1),(4,1),(5,1)],ftys:=[3,31,31,3,150,31]}
theorem ok152:TiOk Tryz.prog 152 ti152:=⟨by kernel_rfl,by kernel_rfl,rfl,by kernel_rfl,by kernel_rfl,by kernel_rfl⟩
noncomputable def ti163:TI:= {desc:= .int .u64,agg:=false,size:=1,bytes:=8,zero:=[.int .u64 0],fields:=[],ftys:=[]}
theorem ok163:TiOk Tryz.prog 163 ti163:=⟨by kernel_rfl,by kernel_rfl,rfl,by kernel_rfl,by kernel_rfl,by kernel_rfl⟩
noncomputable def ti168:TI:= {desc:= .pointer 170,agg:=false,size:=1,bytes:=8,zero:=[.pointer none],fields:=[],ftys:=[]}
theorem ok168:TiOk Tryz.prog 168 ti168:=⟨by kernel_rfl,by kernel_rfl,rfl,by kernel_rfl,by kernel_rfl,by kernel_rfl⟩
noncomputable def ti170:TI:= {desc:= .struct,agg:=true,size:=2,bytes:=32,zero:=[.pointer none,.slice none 0 0],fields:=[(0,1),(1,1)],ftys:=[168,31]}
theorem ok170:TiOk Tryz.prog 170 ti170:=⟨by kernel_rfl,by kernel_rfl,rfl,by kernel_rfl,by kernel_rfl,by kernel_rfl⟩
noncomputable def ti187:TI:= {desc:= .array 24 5,agg:=true,size:=24,bytes:=24,zero:=[.int .u8 0,.int .u8 0,.int .u8 0,.int .u8 0,.int .u8 0,.int .u8 0,.int .u8 0,.int .u8 0,.int .u8 0,.int .u8 0,.int .u8 0,.int .u8 0,.int .u8 0,.int .u8 0,.int .u8 0,.int .u8 0,.int .u8 0,.int .u8 0,.int .u8 0,.int .u8 0,.int .u8 0,.int .u8 0,.int .u8 0,.int .u8 0],fields:=[],ftys:=[]}
theorem ok187:TiOk Tryz.prog 187 ti187:=⟨by kernel_rfl,by kernel_rfl,rfl,by kernel_rfl,by kernel_rfl,by kernel_rfl⟩
noncomputable def ti192:TI:= {desc:= .struct,agg:=true,size:=6,bytes:=112,zero:=[.int .i64 0,.slice none 0 0,.slice none 0 0,.int .i64 0,.slice none 0 0,.slice none 0 0],fields:=[(0,1),(1,1),(2,1),(3,1),(4,1),(5,1)],ftys:=[3,31,31,3,150,31]}
theorem ok192:TiOk Tryz.prog 192 ti192:=⟨by kernel_rfl,by kernel_rfl,rfl,by kernel_rfl,by kernel_rfl,by kernel_rfl⟩
noncomputable def ti198:TI:= {desc:= .int .i64,agg:=false,size:=1,bytes:=8,zero:=[.int .i64 0],fields:=[],ftys:=[]}
theorem ok198:TiOk Tryz.prog 198 ti198:=⟨by kernel_rfl,by kernel_rfl,rfl,by kernel_rfl,by kernel_rfl,by kernel_rfl⟩
noncomputable def ti205:TI:= {desc:= .int .u32,agg:=false,size:=1,bytes:=4,zero:=[.int .u32 0],fields:=[],ftys:=[]}
theorem ok205:TiOk Tryz.prog 205 ti205:=⟨by kernel_rfl,by kernel_rfl,rfl,by kernel_rfl,by kernel_rfl,by kernel_rfl⟩
noncomputable def ti213:TI:= {desc:= .pointer 5,agg:=false,size:=1,bytes:=8,zero:=[.pointer none],fields:=[],ftys:=[]}
theorem ok213:TiOk Tryz.prog 213 ti213:=⟨by kernel_rfl,by kernel_rfl,rfl,by kernel_rfl,by kernel_rfl,by kernel_rfl⟩
noncomputable def ti221:TI:= {desc:= .array 8 205,agg:=true,size:=8,bytes:=32,zero:=[.int .u32 0,.int .u32 0,.int .u32 0,.int .u32 0,.int .u32 0,.int .u32 0,.int .u32 0,.int .u32 0],fields:=[],ftys:=[]}
theorem ok221:TiOk Tryz.prog 221 ti221:=⟨by kernel_rfl,by kernel_rfl,rfl,by kernel_rfl,by kernel_rfl,by kernel_rfl⟩
noncomputable def ti222:TI:= {desc:= .array 8 205,agg:=true,size:=8,bytes:=32,zero:=[.int .u32 0,.int .u32 0,.int .u32 0,.int .u32 0,.int .u32 0,.int .u32 0,.int .u32 0,.int .u32 0],fields:=[],ftys:=[]}
theorem ok222:TiOk Tryz.prog 222 ti222:=⟨by kernel_rfl,by kernel_rfl,rfl,by kernel_rfl,by kernel_rfl,by kernel_rfl⟩
noncomputable def ti232:TI:= {desc:= .int .u64,agg:=false,size:=1,bytes:=8,zero:=[.int .u64 0],fields:=[],ftys:=[]}
theorem ok232:TiOk Tryz.prog 232 ti232:=⟨by kernel_rfl,by kernel_rfl,rfl,by kernel_rfl,by kernel_rfl,by kernel_rfl⟩
noncomputable def ti235:TI:= {desc:= .pointer 3,agg:=false,size:=1,bytes:=8,zero:=[.pointer none],fields:=[],ftys:=[]}
theorem ok235:TiOk Tryz.prog 235 ti235:=⟨by kernel_rfl,by kernel_rfl,rfl,by kernel_rfl,by kernel_rfl,by kernel_rfl⟩
noncomputable def ti245:TI:= {desc:= .array 64 205,agg:=true,size:=64,bytes:=256,zero:=List.replicate 64 (.int .u32 0),fields:=[],ftys:=[]}
theorem ok245:TiOk Tryz.prog 245 ti245:=⟨by kernel_rfl,by kernel_rfl,rfl,by kernel_rfl,by kernel_rfl,by kernel_rfl⟩
noncomputable def ti249:TI:= {desc:= .array 8 205,agg:=true,size:=8,bytes:=32,zero:=[.int .u32 0,.int .u32 0,.int .u32 0,.int .u32 0,.int .u32 0,.int .u32 0,.int .u32 0,.int .u32 0],fields:=[],ftys:=[]}
theorem ok249:TiOk Tryz.prog 249 ti249:=⟨by kernel_rfl,by kernel_rfl,rfl,by kernel_rfl,by kernel_rfl,by kernel_rfl⟩
noncomputable def ti254:TI:= {desc:= .slice 257,agg:=false,size:=1,bytes:=24,zero:=[.slice none 0 0],fields:=[],ftys:=[]}
theorem ok254:TiOk Tryz.prog 254 ti254:=⟨by kernel_rfl,by kernel_rfl,rfl,by kernel_rfl,by kernel_rfl,by kernel_rfl⟩
noncomputable def ti257:TI:= {desc:= .struct,agg:=true,size:=2,bytes:=16,zero:=[.int .i64 0,.int .i64 0],fields:=[(0,1),(1,1)],ftys:=[3,3]}
theorem ok257:TiOk Tryz.prog 257 ti257:=⟨by kernel_rfl,by kernel_rfl,rfl,by kernel_rfl,by kernel_rfl,by kernel_rfl⟩
noncomputable def ti265:TI:= {desc:= .slice 267,agg:=false,size:=1,bytes:=24,zero:=[.slice none 0 0],fields:=[],ftys:=[]}
theorem ok265:TiOk Tryz.prog 265 ti265:=⟨by kernel_rfl,by kernel_rfl,rfl,by kernel_rfl,by kernel_rfl,by kernel_rfl⟩
noncomputable def ti267:TI:= {desc:= .struct,agg:=true,size:=2,bytes:=8,zero:=[.int .i32 0,.int .i32 0],fields:=[(0,1),(1,1)],ftys:=[21,21]}
theorem ok267:TiOk Tryz.prog 267 ti267:=⟨by kernel_rfl,by kernel_rfl,rfl,by kernel_rfl,by kernel_rfl,by kernel_rfl⟩
noncomputable def ti268:TI:= {desc:= .array 9 267,agg:=true,size:=18,bytes:=72,zero:=[.int .i32 0,.int .i32 0,.int .i32 0,.int .i32 0,.int .i32 0,.int .i32 0,.int .i32 0,.int .i32 0,.int .i32 0,.int .i32 0,.int .i32 0,.int .i32 0,.int .i32 0,.int .i32 0,.int .i32 0,.int .i32 0,.int .i32 0,.int .i32 0],fields:=[],ftys:=[]}
theorem ok268:TiOk Tryz.prog 268 ti268:=⟨by kernel_rfl,by kernel_rfl,rfl,by kernel_rfl,by kernel_rfl,by kernel_rfl⟩
noncomputable def ti279:TI:= {desc:= .other,agg:=false,size:=1,bytes:=8,zero:=[.nilFunc],fields:=[],ftys:=[]}
theorem ok279:TiOk Tryz.prog 279 ti279:=⟨by kernel_rfl,by kernel_rfl,rfl,by kernel_rfl,by kernel_rfl,by kernel_rfl⟩
noncomputable def ti280:TI:= {desc:= .array 6 267,agg:=true,size:=12,bytes:=48,zero:=[.int .i32 0,.int .i32 0,.int .i32 0,.int .i32 0,.int .i32 0,.int .i32 0,.int .i32 0,.int .i32 0,.int .i32 0,.int .i32 0,.int .i32 0,.int .i32 0],fields:=[],ftys:=[]}
theorem ok280:TiOk Tryz.prog 280 ti280:=⟨by kernel_rfl,by kernel_rfl,rfl,by kernel_rfl,by kernel_rfl,by kernel_rfl⟩
noncomputable def ti281:TI:= {desc:= .array 5 267,agg:=true,size:=10,bytes:=40,zero:=[.int .i32 0,.int .i32 0,.int .i32 0,.int .i32 0,.int .i32 0,.int .i32 0,.int .i32 0,.int .i32 0,.int .i32 0,.int .i32 0],fields:=[],ftys:=[]}
theorem ok281:TiOk Tryz.prog 281 ti281:=⟨by kernel_rfl,by kernel_rfl,rfl,by kernel_rfl,by kernel_rfl,by kernel_rfl⟩
noncomputable def ti283:TI:= {desc:= .struct,agg:=true,size:=4,bytes:=16,zero:=[.int .i64 0,.int .u8 0,.int .u8 0,.int .i32 0],fields:=[(0,1),(1,1),(2,1),(3,1)],ftys:=[3,5,5,21]}
theorem ok283:TiOk Tryz.prog 283 ti283:=⟨by kernel_rfl,by kernel_rfl,rfl,by kernel_rfl,by kernel_rfl,by kernel_rfl⟩
noncomputable def ti284:TI:= {desc:= .array 4 283,agg:=true,size:=16,bytes:=64,zero:=[.int .i64 0,.int .u8 0,.int .u8 0,.int .i32 0,.int .i64 0,.int .u8 0,.int .u8 0,.int .i32 0,.int .i64 0,.int .u8 0,.int .u8 0,.int .i32 0,.int .i64 0,.int .u8 0,.int .u8 0,.int .i32 0],fields:=[],ftys:=[]}
theorem ok284:TiOk Tryz.prog 284 ti284:=⟨by kernel_rfl,by kernel_rfl,rfl,by kernel_rfl,by kernel_rfl,by kernel_rfl⟩
abbrev z_bE:TypeId:=3
abbrev z_lH:TypeId:=4
abbrev z_ab:TypeId:=5
abbrev z_ak:TypeId:=9
abbrev z_aA:TypeId:=22
abbrev z_jt:TypeId:=23
abbrev z_ax:TypeId:=25
abbrev z_aZ:TypeId:=26
abbrev z_al:TypeId:=31
abbrev z_aw:TypeId:=32
abbrev z_aY:TypeId:=42
abbrev z_aK:TypeId:=45
abbrev z_am:TypeId:=48
abbrev z_aF:TypeId:=50
abbrev z_qV:TypeId:=51
abbrev z_ao:TypeId:=53
abbrev z_ri:TypeId:=57
abbrev z_an:TypeId:=67
abbrev z_ar:TypeId:=75
abbrev z_cH:TypeId:=77
abbrev z_m7:TypeId:=80
abbrev z_es:TypeId:=83
abbrev z_av:TypeId:=84
abbrev z_az:TypeId:=85
abbrev z_bz:TypeId:=87
abbrev z_a7:TypeId:=89
abbrev z_ad:TypeId:=92
abbrev z_aN:TypeId:=105
abbrev z_at:TypeId:=144
abbrev z_bm:TypeId:=152
abbrev z_aq:TypeId:=170
abbrev z_aJ:TypeId:=192
abbrev z_nH:TypeId:=213
abbrev z_aE:TypeId:=232
abbrev z_kE:TypeId:=257
abbrev z_bQ:TypeId:=283
theorem mixed:Tryz.prog.follows .mixedOrders=true:=by kernel_rfl
noncomputable def z_a6 (W0:World) (S:Nat->Prop) (bs:List Nat:=[]):Cx:=⟨Tryz.prog,W0,S,108,[(3,ti3),(4,ti4),(5,ti5),(9,ti9),(22,ti22),(23,ti23),(25,ti25),(26,ti26),(29,ti29),(31,ti31),(32,ti32),(35,ti35),(36,ti36),(37,ti37),(39,ti39),(40,ti40),(42,ti42),(43,ti43),(45,ti45),(46,ti46),(48,ti48),(50,ti50),(51,ti51),(53,ti53),(57,ti57),(60,ti60),(105,ti105),(150,ti150),(192,ti192)],[4,5,6,7,8,9,10,11,12,13,14],bs,none,[]⟩
abbrev z_cP:FuncId:=3
theorem z_gx:Tryz.prog.funcs[z_cP]?=some Tryz.f3:=Tryz.func3
theorem z_e1 (W0:World) (S:Nat->Prop) (bs:List Nat:=[]):Good (z_a6 W0 S bs):=⟨fmc ⟨ok3,fmc ⟨ok4,fmc ⟨ok5,fmc ⟨ok9,fmc ⟨ok22,fmc ⟨ok23,fmc ⟨ok25,fmc ⟨ok26,fmc ⟨ok29,fmc ⟨ok31,fmc ⟨ok32,fmc ⟨ok35,fmc ⟨ok36,fmc ⟨ok37,fmc ⟨ok39,fmc ⟨ok40,fmc ⟨ok42,fmc ⟨ok43,fmc ⟨ok45,fmc ⟨ok46,fmc ⟨ok48,fmc ⟨ok50,fmc ⟨ok51,fmc ⟨ok53,fmc ⟨ok57,fmc ⟨ok60,fmc ⟨ok105,fmc ⟨ok150,fmc ⟨ok192,(fun _ h=>by cases h)⟩⟩⟩⟩⟩⟩⟩⟩⟩⟩⟩⟩⟩⟩⟩⟩⟩⟩⟩⟩⟩⟩⟩⟩⟩⟩⟩⟩⟩,fmc ⟨by kernel_rfl,fmc ⟨by kernel_rfl,fmc ⟨by kernel_rfl,fmc ⟨by kernel_rfl,fmc ⟨by kernel_rfl,fmc ⟨by kernel_rfl,fmc ⟨by kernel_rfl,fmc ⟨by kernel_rfl,fmc ⟨by kernel_rfl,fmc ⟨by kernel_rfl,fmc ⟨by kernel_rfl,(fun _ h=>by cases h)⟩⟩⟩⟩⟩⟩⟩⟩⟩⟩⟩,mixed⟩
noncomputable def z_eV (W0:World) (S:Nat->Prop) (bs:List Nat:=[]):Cx:=⟨Tryz.prog,W0,S,68,[(4,ti4),(9,ti9),(22,ti22),(26,ti26),(32,ti32),(50,ti50),(67,ti67)],[15,16,17,18,19],bs,none,[]⟩
abbrev z_fA:FuncId:=4
theorem z_kQ:Tryz.prog.funcs[z_fA]?=some Tryz.f4:=Tryz.func4
def z_iX:Plan:= .take 0 (.take 1 (.take 2 (.take 3 (.take 4 (.take 5 (.take 6 (.take 7 (.take 8 (.take 9 (.take 10 (.take 11 (.take 12 (.take 13 (.exec 14 (.take 15 (.take 16 (.take 17 (.take 18 (.take 19 (.take 20 (.take 21 (.take 22 (.take 23 (.take 24 (.take 25 (.done))))))))))))))))))))))))))
theorem z_if (W0:World) (S:Nat->Prop) (bs:List Nat:=[]):Good (z_eV W0 S bs):=⟨fmc ⟨ok4,fmc ⟨ok9,fmc ⟨ok22,fmc ⟨ok26,fmc ⟨ok32,fmc ⟨ok50,fmc ⟨ok67,(fun _ h=>by cases h)⟩⟩⟩⟩⟩⟩⟩,fmc ⟨by kernel_rfl,fmc ⟨by kernel_rfl,fmc ⟨by kernel_rfl,fmc ⟨by kernel_rfl,fmc ⟨by kernel_rfl,(fun _ h=>by cases h)⟩⟩⟩⟩⟩,mixed⟩
noncomputable def z_lG (W0:World) (S:Nat->Prop) (bs:List Nat:=[]):Cx:=⟨Tryz.prog,W0,S,39,[(3,ti3),(5,ti5),(22,ti22),(25,ti25),(29,ti29),(31,ti31),(75,ti75),(77,ti77)],[20,21],bs,none,[]⟩
abbrev z_ni:FuncId:=5
theorem z_t4:Tryz.prog.funcs[z_ni]?=some Tryz.f5:=Tryz.func5
theorem z_qm (W0:World) (S:Nat->Prop) (bs:List Nat:=[]):Good (z_lG W0 S bs):=⟨fmc ⟨ok3,fmc ⟨ok5,fmc ⟨ok22,fmc ⟨ok25,fmc ⟨ok29,fmc ⟨ok31,fmc ⟨ok75,fmc ⟨ok77,(fun _ h=>by cases h)⟩⟩⟩⟩⟩⟩⟩⟩,fmc ⟨by kernel_rfl,fmc ⟨by kernel_rfl,(fun _ h=>by cases h)⟩⟩,mixed⟩
noncomputable def z_p0 (W0:World) (S:Nat->Prop) (bs:List Nat:=[]):Cx:=⟨Tryz.prog,W0,S,7,[(3,ti3),(4,ti4),(5,ti5),(9,ti9),(31,ti31),(80,ti80),(81,ti81),(83,ti83),(150,ti150),(152,ti152)],[],bs,none,[]⟩
abbrev z_rf:FuncId:=6
theorem z_vX:Tryz.prog.funcs[z_rf]?=some Tryz.f6:=Tryz.func6
theorem z_qS (W0:World) (S:Nat->Prop) (bs:List Nat:=[]):Good (z_p0 W0 S bs):=⟨fmc ⟨ok3,fmc ⟨ok4,fmc ⟨ok5,fmc ⟨ok9,fmc ⟨ok31,fmc ⟨ok80,fmc ⟨ok81,fmc ⟨ok83,fmc ⟨ok150,fmc ⟨ok152,(fun _ h=>by cases h)⟩⟩⟩⟩⟩⟩⟩⟩⟩⟩,(fun _ h=>by cases h),mixed⟩
noncomputable def z_hs (W0:World) (S:Nat->Prop) (bs:List Nat:=[]):Cx:=⟨Tryz.prog,W0,S,22,[(4,ti4),(22,ti22),(25,ti25),(84,ti84),(85,ti85),(87,ti87)],[],bs,none,[]⟩
abbrev z_iA:FuncId:=7
theorem z_n3:Tryz.prog.funcs[z_iA]?=some Tryz.f7:=Tryz.func7
theorem z_lw (W0:World) (S:Nat->Prop) (bs:List Nat:=[]):Good (z_hs W0 S bs):=⟨fmc ⟨ok4,fmc ⟨ok22,fmc ⟨ok25,fmc ⟨ok84,fmc ⟨ok85,fmc ⟨ok87,(fun _ h=>by cases h)⟩⟩⟩⟩⟩⟩,(fun _ h=>by cases h),mixed⟩
noncomputable def z_de (W0:World) (S:Nat->Prop) (bs:List Nat:=[]):Cx:=⟨Tryz.prog,W0,S,17,[(3,ti3),(5,ti5),(22,ti22),(31,ti31),(37,ti37),(39,ti39),(57,ti57),(89,ti89)],[22,23],bs,none,[]⟩
abbrev z_gP:FuncId:=8
theorem z_mB:Tryz.prog.funcs[z_gP]?=some Tryz.f8:=Tryz.func8
theorem z_jK (W0:World) (S:Nat->Prop) (bs:List Nat:=[]):Good (z_de W0 S bs):=⟨fmc ⟨ok3,fmc ⟨ok5,fmc ⟨ok22,fmc ⟨ok31,fmc ⟨ok37,fmc ⟨ok39,fmc ⟨ok57,fmc ⟨ok89,(fun _ h=>by cases h)⟩⟩⟩⟩⟩⟩⟩⟩,fmc ⟨by kernel_rfl,fmc ⟨by kernel_rfl,(fun _ h=>by cases h)⟩⟩,mixed⟩
noncomputable def z_dL (W0:World) (S:Nat->Prop) (bs:List Nat:=[]):Cx:=⟨Tryz.prog,W0,S,260,[(3,ti3),(4,ti4),(5,ti5),(9,ti9),(22,ti22),(25,ti25),(31,ti31),(32,ti32),(36,ti36),(37,ti37),(43,ti43),(45,ti45),(46,ti46),(48,ti48),(50,ti50),(51,ti51),(53,ti53),(67,ti67),(92,ti92),(105,ti105)],[16,18,19,21,23,24,25,26,27,28,29,30,31,32],bs,none,[]⟩
abbrev z_d7:FuncId:=9
theorem z_jd:Tryz.prog.funcs[z_d7]?=some Tryz.f9:=Tryz.func9
def z_ht:Plan:= .take 0 (.take 1 (.take 2 (.take 4 (.take 5 (.take 6 (.take 7 (.exec 3 (.take 8 (.take 9 (.take 10 (.exec 11 (.done))))))))))))
def z_g6:Plan:= .take 0 (.take 1 (.take 2 (.take 3 (.take 4 (.take 5 (.take 6 (.take 7 (.take 8 (.take 9 (.take 10 (.take 11 (.take 12 (.take 13 (.take 14 (.take 15 (.done))))))))))))))))
def z_he:Plan:= .take 0 (.take 1 (.take 2 (.take 3 (.take 4 (.take 5 (.take 6 (.take 7 (.take 8 (.alt 9 (.take 10 (.take 11 (.take 12 (.exec 13 (.exec 14 (.take 15 (.done))))))) (.exec 13 (.exec 9 (.take 10 (.take 11 (.take 12 (.exec 14 (.take 15 (.done)))))))))))))))))
def z_g5:Plan:= .take 0 (.take 1 (.take 2 (.take 3 (.take 4 (.take 5 (.take 6 (.take 7 (.take 8 (.alt 9 (.take 10 (.take 11 (.take 12 (.exec 13 (.exec 14 (.take 15 (.done))))))) (.exec 13 (.exec 9 (.take 10 (.take 11 (.take 12 (.exec 14 (.take 15 (.done)))))))))))))))))
def z_hf:Plan:= .take 0 (.take 1 (.take 2 (.take 3 (.take 4 (.take 6 (.take 7 (.take 8 (.take 9 (.take 10 (.exec 5 (.exec 11 (.take 12 (.take 13 (.done))))))))))))))
def z_g9:Plan:= .take 0 (.take 1 (.take 2 (.take 3 (.take 4 (.take 5 (.take 6 (.take 7 (.take 9 (.take 10 (.take 11 (.take 12 (.take 13 (.take 14 (.take 15 (.take 16 (.exec 8 (.exec 17 (.take 18 (.take 19 (.done))))))))))))))))))))
def z_hg:Plan:= .take 0 (.take 1 (.take 2 (.take 3 (.take 4 (.take 6 (.take 7 (.take 8 (.take 9 (.take 10 (.take 11 (.take 12 (.take 13 (.exec 5 (.exec 14 (.take 15 (.take 16 (.done)))))))))))))))))
def z_hh:Plan:= .take 0 (.take 1 (.take 2 (.take 3 (.take 4 (.take 5 (.take 6 (.take 7 (.take 8 (.take 9 (.take 10 (.alt 11 (.take 12 (.take 13 (.take 14 (.take 15 (.exec 16 (.take 17 (.exec 18 (.take 19 (.done))))))))) (.exec 16 (.exec 11 (.take 12 (.take 13 (.take 14 (.take 15 (.take 17 (.exec 18 (.take 19 (.done)))))))))))))))))))))
def z_g2:Plan:= .take 0 (.take 1 (.take 2 (.take 3 (.take 4 (.take 5 (.take 6 (.take 7 (.take 8 (.take 9 (.take 10 (.alt 11 (.take 12 (.take 13 (.take 14 (.take 15 (.exec 16 (.take 17 (.exec 18 (.take 19 (.done))))))))) (.exec 16 (.exec 11 (.take 12 (.take 13 (.take 14 (.take 15 (.take 17 (.exec 18 (.take 19 (.done)))))))))))))))))))))
theorem z_hc (W0:World) (S:Nat->Prop) (bs:List Nat:=[]):Good (z_dL W0 S bs):=⟨fmc ⟨ok3,fmc ⟨ok4,fmc ⟨ok5,fmc ⟨ok9,fmc ⟨ok22,fmc ⟨ok25,fmc ⟨ok31,fmc ⟨ok32,fmc ⟨ok36,fmc ⟨ok37,fmc ⟨ok43,fmc ⟨ok45,fmc ⟨ok46,fmc ⟨ok48,fmc ⟨ok50,fmc ⟨ok51,fmc ⟨ok53,fmc ⟨ok67,fmc ⟨ok92,fmc ⟨ok105,(fun _ h=>by cases h)⟩⟩⟩⟩⟩⟩⟩⟩⟩⟩⟩⟩⟩⟩⟩⟩⟩⟩⟩⟩,fmc ⟨by kernel_rfl,fmc ⟨by kernel_rfl,fmc ⟨by kernel_rfl,fmc ⟨by kernel_rfl,fmc ⟨by kernel_rfl,fmc ⟨by kernel_rfl,fmc ⟨by kernel_rfl,fmc ⟨by kernel_rfl,fmc ⟨by kernel_rfl,fmc ⟨by kernel_rfl,fmc ⟨by kernel_rfl,fmc ⟨by kernel_rfl,fmc ⟨by kernel_rfl,fmc ⟨by kernel_rfl,(fun _ h=>by cases h)⟩⟩⟩⟩⟩⟩⟩⟩⟩⟩⟩⟩⟩⟩,mixed⟩
noncomputable def z_ey (W0:World) (S:Nat->Prop) (bs:List Nat:=[]):Cx:=⟨Tryz.prog,W0,S,9,[(4,ti4),(22,ti22),(25,ti25),(32,ti32),(84,ti84),(85,ti85),(87,ti87)],[],bs,none,[]⟩
abbrev z_cT:FuncId:=10
theorem z_kP:Tryz.prog.funcs[z_cT]?=some Tryz.f10:=Tryz.func10
theorem z_is (W0:World) (S:Nat->Prop) (bs:List Nat:=[]):Good (z_ey W0 S bs):=⟨fmc ⟨ok4,fmc ⟨ok22,fmc ⟨ok25,fmc ⟨ok32,fmc ⟨ok84,fmc ⟨ok85,fmc ⟨ok87,(fun _ h=>by cases h)⟩⟩⟩⟩⟩⟩⟩,(fun _ h=>by cases h),mixed⟩
noncomputable def z_b9 (W0:World) (S:Nat->Prop) (bs:List Nat:=[]):Cx:=⟨Tryz.prog,W0,S,26,[(3,ti3),(22,ti22),(57,ti57)],[],bs,none,[]⟩
abbrev z_cn:FuncId:=11
theorem z_fF:Tryz.prog.funcs[z_cn]?=some Tryz.f11:=Tryz.func11
def z_eH:Plan:= .take 0 (.take 1 (.take 2 (.take 3 (.take 4 (.take 5 (.take 6 (.take 7 (.take 8 (.done)))))))))
theorem z_eo (W0:World) (S:Nat->Prop) (bs:List Nat:=[]):Good (z_b9 W0 S bs):=⟨fmc ⟨ok3,fmc ⟨ok22,fmc ⟨ok57,(fun _ h=>by cases h)⟩⟩⟩,(fun _ h=>by cases h),mixed⟩
noncomputable def z_bF (W0:World) (S:Nat->Prop) (bs:List Nat:=[]):Cx:=⟨Tryz.prog,W0,S,5,[(22,ti22),(57,ti57),(60,ti60)],[33],bs,none,[]⟩
abbrev z_h5:FuncId:=12
theorem z_ih:Tryz.prog.funcs[z_h5]?=some Tryz.f12:=Tryz.func12
theorem z_gs (W0:World) (S:Nat->Prop) (bs:List Nat:=[]):Good (z_bF W0 S bs):=⟨fmc ⟨ok22,fmc ⟨ok57,fmc ⟨ok60,(fun _ h=>by cases h)⟩⟩⟩,fmc ⟨by kernel_rfl,(fun _ h=>by cases h)⟩,mixed⟩
noncomputable def z_ea (W0:World) (S:Nat->Prop) (bs:List Nat:=[]):Cx:=⟨Tryz.prog,W0,S,4,[(32,ti32)],[34],bs,none,[]⟩
abbrev z_eY:FuncId:=13
theorem z_je:Tryz.prog.funcs[z_eY]?=some Tryz.f13:=Tryz.func13
theorem z_hA (W0:World) (S:Nat->Prop) (bs:List Nat:=[]):Good (z_ea W0 S bs):=⟨fmc ⟨ok32,(fun _ h=>by cases h)⟩,fmc ⟨by kernel_rfl,(fun _ h=>by cases h)⟩,mixed⟩
noncomputable def z_dJ (W0:World) (S:Nat->Prop) (bs:List Nat:=[]):Cx:=⟨Tryz.prog,W0,S,24,[(3,ti3),(4,ti4),(22,ti22),(37,ti37),(43,ti43),(45,ti45),(57,ti57),(105,ti105)],[],bs,none,[]⟩
abbrev z_ee:FuncId:=14
theorem z_jb:Tryz.prog.funcs[z_ee]?=some Tryz.f14:=Tryz.func14
theorem z_g3 (W0:World) (S:Nat->Prop) (bs:List Nat:=[]):Good (z_dJ W0 S bs):=⟨fmc ⟨ok3,fmc ⟨ok4,fmc ⟨ok22,fmc ⟨ok37,fmc ⟨ok43,fmc ⟨ok45,fmc ⟨ok57,fmc ⟨ok105,(fun _ h=>by cases h)⟩⟩⟩⟩⟩⟩⟩⟩,(fun _ h=>by cases h),mixed⟩
noncomputable def z_e6 (W0:World) (S:Nat->Prop) (bs:List Nat:=[]):Cx:=⟨Tryz.prog,W0,S,26,[(3,ti3),(4,ti4),(5,ti5),(22,ti22),(25,ti25),(29,ti29),(31,ti31)],[5,6,7],bs,none,[]⟩
abbrev z_gm:FuncId:=15
theorem z_lk:Tryz.prog.funcs[z_gm]?=some Tryz.f15:=Tryz.func15
theorem z_iI (W0:World) (S:Nat->Prop) (bs:List Nat:=[]):Good (z_e6 W0 S bs):=⟨fmc ⟨ok3,fmc ⟨ok4,fmc ⟨ok5,fmc ⟨ok22,fmc ⟨ok25,fmc ⟨ok29,fmc ⟨ok31,(fun _ h=>by cases h)⟩⟩⟩⟩⟩⟩⟩,fmc ⟨by kernel_rfl,fmc ⟨by kernel_rfl,fmc ⟨by kernel_rfl,(fun _ h=>by cases h)⟩⟩⟩,mixed⟩
noncomputable def z_fZ (W0:World) (S:Nat->Prop) (bs:List Nat:=[]):Cx:=⟨Tryz.prog,W0,S,97,[(4,ti4),(5,ti5),(9,ti9),(22,ti22),(25,ti25),(26,ti26),(31,ti31),(32,ti32),(50,ti50),(67,ti67),(84,ti84),(85,ti85),(87,ti87),(137,ti137)],[37,38,39,40,41],bs,none,[]⟩
abbrev z_gB:FuncId:=16
theorem z_mJ:Tryz.prog.funcs[z_gB]?=some Tryz.f16:=Tryz.func16
def z_kF:Plan:= .take 0 (.take 1 (.take 2 (.take 3 (.take 4 (.take 5 (.take 6 (.take 7 (.take 8 (.take 9 (.take 10 (.take 11 (.take 13 (.take 14 (.alt 12 (.take 15 (.exec 16 (.exec 17 (.done)))) (.exec 16 (.exec 12 (.take 15 (.exec 17 (.done)))))))))))))))))))
def z_jC:Plan:= .take 0 (.take 3 (.take 6 (.exec 1 (.take 2 (.exec 4 (.take 5 (.take 7 (.exec 8 (.take 9 (.done))))))))))
theorem z_ks (W0:World) (S:Nat->Prop) (bs:List Nat:=[]):Good (z_fZ W0 S bs):=⟨fmc ⟨ok4,fmc ⟨ok5,fmc ⟨ok9,fmc ⟨ok22,fmc ⟨ok25,fmc ⟨ok26,fmc ⟨ok31,fmc ⟨ok32,fmc ⟨ok50,fmc ⟨ok67,fmc ⟨ok84,fmc ⟨ok85,fmc ⟨ok87,fmc ⟨ok137,(fun _ h=>by cases h)⟩⟩⟩⟩⟩⟩⟩⟩⟩⟩⟩⟩⟩⟩,fmc ⟨by kernel_rfl,fmc ⟨by kernel_rfl,fmc ⟨by kernel_rfl,fmc ⟨by kernel_rfl,fmc ⟨by kernel_rfl,(fun _ h=>by cases h)⟩⟩⟩⟩⟩,mixed⟩
noncomputable def z_fJ (W0:World) (S:Nat->Prop) (bs:List Nat:=[]):Cx:=⟨Tryz.prog,W0,S,2,[(9,ti9),(50,ti50)],[],bs,none,[]⟩
abbrev z_gQ:FuncId:=17
theorem z_mO:Tryz.prog.funcs[z_gQ]?=some Tryz.f17:=Tryz.func17
theorem z_kf (W0:World) (S:Nat->Prop) (bs:List Nat:=[]):Good (z_fJ W0 S bs):=⟨fmc ⟨ok9,fmc ⟨ok50,(fun _ h=>by cases h)⟩⟩,(fun _ h=>by cases h),mixed⟩
noncomputable def z_f8 (W0:World) (S:Nat->Prop) (bs:List Nat:=[]):Cx:=⟨Tryz.prog,W0,S,69,[(4,ti4),(5,ti5),(9,ti9),(22,ti22),(25,ti25),(26,ti26),(31,ti31),(32,ti32),(50,ti50),(67,ti67),(84,ti84),(85,ti85),(87,ti87),(137,ti137)],[42,43,44],bs,none,[]⟩
abbrev z_gA:FuncId:=18
theorem z_mS:Tryz.prog.funcs[z_gA]?=some Tryz.f18:=Tryz.func18
def z_jv:Plan:= .take 0 (.take 1 (.take 2 (.take 3 (.take 4 (.take 5 (.take 6 (.take 7 (.done))))))))
theorem z_jx (W0:World) (S:Nat->Prop) (bs:List Nat:=[]):Good (z_f8 W0 S bs):=⟨fmc ⟨ok4,fmc ⟨ok5,fmc ⟨ok9,fmc ⟨ok22,fmc ⟨ok25,fmc ⟨ok26,fmc ⟨ok31,fmc ⟨ok32,fmc ⟨ok50,fmc ⟨ok67,fmc ⟨ok84,fmc ⟨ok85,fmc ⟨ok87,fmc ⟨ok137,(fun _ h=>by cases h)⟩⟩⟩⟩⟩⟩⟩⟩⟩⟩⟩⟩⟩⟩,fmc ⟨by kernel_rfl,fmc ⟨by kernel_rfl,fmc ⟨by kernel_rfl,(fun _ h=>by cases h)⟩⟩⟩,mixed⟩
noncomputable def z_ez (W0:World) (S:Nat->Prop) (bs:List Nat:=[]):Cx:=⟨Tryz.prog,W0,S,33,[(4,ti4),(22,ti22),(25,ti25),(32,ti32),(84,ti84),(85,ti85),(87,ti87)],[],bs,none,[]⟩
abbrev z_fa:FuncId:=19
theorem z_k2:Tryz.prog.funcs[z_fa]?=some Tryz.f19:=Tryz.func19
theorem z_ij (W0:World) (S:Nat->Prop) (bs:List Nat:=[]):Good (z_ez W0 S bs):=⟨fmc ⟨ok4,fmc ⟨ok22,fmc ⟨ok25,fmc ⟨ok32,fmc ⟨ok84,fmc ⟨ok85,fmc ⟨ok87,(fun _ h=>by cases h)⟩⟩⟩⟩⟩⟩⟩,(fun _ h=>by cases h),mixed⟩
noncomputable def z_k6 (W0:World) (S:Nat->Prop) (bs:List Nat:=[]):Cx:=⟨Tryz.prog,W0,S,8,[(5,ti5),(31,ti31)],[],bs,none,[]⟩
abbrev z_mD:FuncId:=20
theorem z_qF:Tryz.prog.funcs[z_mD]?=some Tryz.f20:=Tryz.func20
theorem z_nS (W0:World) (S:Nat->Prop) (bs:List Nat:=[]):Good (z_k6 W0 S bs):=⟨fmc ⟨ok5,fmc ⟨ok31,(fun _ h=>by cases h)⟩⟩,(fun _ h=>by cases h),mixed⟩
noncomputable def z_dn (W0:World) (S:Nat->Prop) (bs:List Nat:=[]):Cx:=⟨Tryz.prog,W0,S,68,[(3,ti3),(5,ti5),(9,ti9),(22,ti22),(25,ti25),(29,ti29),(31,ti31),(75,ti75),(77,ti77),(137,ti137)],[45,46,47],bs,none,[]⟩
abbrev z_gJ:FuncId:=21
theorem z_mU:Tryz.prog.funcs[z_gJ]?=some Tryz.f21:=Tryz.func21
def z_kC:Plan:= .take 0 (.take 1 (.take 2 (.take 3 (.take 4 (.take 5 (.take 6 (.take 7 (.take 8 (.take 9 (.take 10 (.take 11 (.take 12 (.take 13 (.take 14 (.take 15 (.take 16 (.take 17 (.take 18 (.take 19 (.exec 20 (.take 21 (.exec 22 (.exec 23 (.exec 24 (.exec 25 (.done))))))))))))))))))))))))))
def z_kN:Plan:= .take 0 (.take 1 (.take 2 (.take 3 (.take 4 (.take 5 (.take 6 (.take 7 (.take 8 (.take 9 (.done))))))))))
theorem z_jQ (W0:World) (S:Nat->Prop) (bs:List Nat:=[]):Good (z_dn W0 S bs):=⟨fmc ⟨ok3,fmc ⟨ok5,fmc ⟨ok9,fmc ⟨ok22,fmc ⟨ok25,fmc ⟨ok29,fmc ⟨ok31,fmc ⟨ok75,fmc ⟨ok77,fmc ⟨ok137,(fun _ h=>by cases h)⟩⟩⟩⟩⟩⟩⟩⟩⟩⟩,fmc ⟨by kernel_rfl,fmc ⟨by kernel_rfl,fmc ⟨by kernel_rfl,(fun _ h=>by cases h)⟩⟩⟩,mixed⟩
noncomputable def z_fu (W0:World) (S:Nat->Prop) (bs:List Nat:=[]):Cx:=⟨Tryz.prog,W0,S,6,[(5,ti5),(31,ti31)],[],bs,none,[]⟩
abbrev z_c8:FuncId:=22
theorem z_le:Tryz.prog.funcs[z_c8]?=some Tryz.f22:=Tryz.func22
theorem z_iG (W0:World) (S:Nat->Prop) (bs:List Nat:=[]):Good (z_fu W0 S bs):=⟨fmc ⟨ok5,fmc ⟨ok31,(fun _ h=>by cases h)⟩⟩,(fun _ h=>by cases h),mixed⟩
noncomputable def z_ck (W0:World) (S:Nat->Prop) (bs:List Nat:=[]):Cx:=⟨Tryz.prog,W0,S,53,[(3,ti3),(5,ti5),(22,ti22),(31,ti31),(37,ti37),(39,ti39),(57,ti57),(89,ti89)],[48],bs,none,[]⟩
abbrev z_eE:FuncId:=23
theorem z_jG:Tryz.prog.funcs[z_eE]?=some Tryz.f23:=Tryz.func23
def z_io:Plan:= .take 0 (.take 2 (.take 3 (.take 4 (.take 5 (.take 7 (.take 8 (.take 9 (.take 10 (.alt 1 (.alt 6 (.exec 11 (.exec 12 (.exec 13 (.take 14 (.brk 15 (.done)))))) (.exec 11 (.exec 6 (.exec 12 (.exec 13 (.take 14 (.brk 15 (.done)))))))) (.exec 11 (.exec 1 (.exec 6 (.exec 12 (.exec 13 (.take 14 (.brk 15 (.done)))))))))))))))))
def z_bZ:Plan:= .take 0 (.take 1 (.take 2 (.take 3 (.take 4 (.take 5 (.take 6 (.take 7 (.take 8 (.take 9 (.done))))))))))
theorem z_hn (W0:World) (S:Nat->Prop) (bs:List Nat:=[]):Good (z_ck W0 S bs):=⟨fmc ⟨ok3,fmc ⟨ok5,fmc ⟨ok22,fmc ⟨ok31,fmc ⟨ok37,fmc ⟨ok39,fmc ⟨ok57,fmc ⟨ok89,(fun _ h=>by cases h)⟩⟩⟩⟩⟩⟩⟩⟩,fmc ⟨by kernel_rfl,(fun _ h=>by cases h)⟩,mixed⟩
noncomputable def z_dK (W0:World) (S:Nat->Prop) (bs:List Nat:=[]):Cx:=⟨Tryz.prog,W0,S,11,[(3,ti3),(9,ti9)],[],bs,none,[]⟩
abbrev z_cl:FuncId:=24
theorem z_iF:Tryz.prog.funcs[z_cl]?=some Tryz.f24:=Tryz.func24
theorem z_hi (W0:World) (S:Nat->Prop) (bs:List Nat:=[]):Good (z_dK W0 S bs):=⟨fmc ⟨ok3,fmc ⟨ok9,(fun _ h=>by cases h)⟩⟩,(fun _ h=>by cases h),mixed⟩
noncomputable def z_cS (W0:World) (S:Nat->Prop) (bs:List Nat:=[]):Cx:=⟨Tryz.prog,W0,S,76,[(3,ti3),(4,ti4),(5,ti5),(9,ti9),(22,ti22),(31,ti31),(36,ti36),(37,ti37),(43,ti43),(45,ti45),(50,ti50),(92,ti92),(105,ti105)],[49,50,51,52,53],bs,none,[]⟩
abbrev z_gb:FuncId:=25
theorem z_lL:Tryz.prog.funcs[z_gb]?=some Tryz.f25:=Tryz.func25
def z_jF:Plan:= .take 0 (.take 1 (.take 2 (.take 3 (.take 4 (.take 5 (.take 6 (.take 7 (.exec 8 (.exec 9 (.take 10 (.done)))))))))))
theorem z_iE (W0:World) (S:Nat->Prop) (bs:List Nat:=[]):Good (z_cS W0 S bs):=⟨fmc ⟨ok3,fmc ⟨ok4,fmc ⟨ok5,fmc ⟨ok9,fmc ⟨ok22,fmc ⟨ok31,fmc ⟨ok36,fmc ⟨ok37,fmc ⟨ok43,fmc ⟨ok45,fmc ⟨ok50,fmc ⟨ok92,fmc ⟨ok105,(fun _ h=>by cases h)⟩⟩⟩⟩⟩⟩⟩⟩⟩⟩⟩⟩⟩,fmc ⟨by kernel_rfl,fmc ⟨by kernel_rfl,fmc ⟨by kernel_rfl,fmc ⟨by kernel_rfl,fmc ⟨by kernel_rfl,(fun _ h=>by cases h)⟩⟩⟩⟩⟩,mixed⟩
noncomputable def z_d6 (W0:World) (S:Nat->Prop) (bs:List Nat:=[]):Cx:=⟨Tryz.prog,W0,S,35,[(3,ti3),(4,ti4),(22,ti22),(36,ti36),(37,ti37),(43,ti43),(45,ti45),(105,ti105)],[53],bs,none,[]⟩
abbrev z_eN:FuncId:=26
theorem z_jY:Tryz.prog.funcs[z_eN]?=some Tryz.f26:=Tryz.func26
theorem z_hM (W0:World) (S:Nat->Prop) (bs:List Nat:=[]):Good (z_d6 W0 S bs):=⟨fmc ⟨ok3,fmc ⟨ok4,fmc ⟨ok22,fmc ⟨ok36,fmc ⟨ok37,fmc ⟨ok43,fmc ⟨ok45,fmc ⟨ok105,(fun _ h=>by cases h)⟩⟩⟩⟩⟩⟩⟩⟩,fmc ⟨by kernel_rfl,(fun _ h=>by cases h)⟩,mixed⟩
noncomputable def z_fg (W0:World) (S:Nat->Prop) (bs:List Nat:=[]):Cx:=⟨Tryz.prog,W0,S,49,[(3,ti3),(4,ti4),(22,ti22),(25,ti25),(32,ti32),(57,ti57),(60,ti60),(84,ti84),(85,ti85),(87,ti87)],[35,54],bs,none,[]⟩
abbrev z_gp:FuncId:=27
theorem z_ll:Tryz.prog.funcs[z_gp]?=some Tryz.f27:=Tryz.func27
theorem z_jc (W0:World) (S:Nat->Prop) (bs:List Nat:=[]):Good (z_fg W0 S bs):=⟨fmc ⟨ok3,fmc ⟨ok4,fmc ⟨ok22,fmc ⟨ok25,fmc ⟨ok32,fmc ⟨ok57,fmc ⟨ok60,fmc ⟨ok84,fmc ⟨ok85,fmc ⟨ok87,(fun _ h=>by cases h)⟩⟩⟩⟩⟩⟩⟩⟩⟩⟩,fmc ⟨by kernel_rfl,fmc ⟨by kernel_rfl,(fun _ h=>by cases h)⟩⟩,mixed⟩
noncomputable def z_eJ (W0:World) (S:Nat->Prop) (bs:List Nat:=[]):Cx:=⟨Tryz.prog,W0,S,36,[(3,ti3),(4,ti4),(22,ti22),(37,ti37),(43,ti43),(45,ti45),(105,ti105)],[],bs,none,[]⟩
abbrev z_fd:FuncId:=28
theorem z_kZ:Tryz.prog.funcs[z_fd]?=some Tryz.f28:=Tryz.func28
theorem z_h7 (W0:World) (S:Nat->Prop) (bs:List Nat:=[]):Good (z_eJ W0 S bs):=⟨fmc ⟨ok3,fmc ⟨ok4,fmc ⟨ok22,fmc ⟨ok37,fmc ⟨ok43,fmc ⟨ok45,fmc ⟨ok105,(fun _ h=>by cases h)⟩⟩⟩⟩⟩⟩⟩,(fun _ h=>by cases h),mixed⟩
noncomputable def z_dg (W0:World) (S:Nat->Prop) (bs:List Nat:=[]):Cx:=⟨Tryz.prog,W0,S,21,[(3,ti3),(5,ti5),(22,ti22),(25,ti25),(26,ti26),(29,ti29),(31,ti31),(75,ti75),(77,ti77)],[55],bs,none,[]⟩
abbrev z_gE:FuncId:=29
theorem z_mv:Tryz.prog.funcs[z_gE]?=some Tryz.f29:=Tryz.func29
theorem z_jw (W0:World) (S:Nat->Prop) (bs:List Nat:=[]):Good (z_dg W0 S bs):=⟨fmc ⟨ok3,fmc ⟨ok5,fmc ⟨ok22,fmc ⟨ok25,fmc ⟨ok26,fmc ⟨ok29,fmc ⟨ok31,fmc ⟨ok75,fmc ⟨ok77,(fun _ h=>by cases h)⟩⟩⟩⟩⟩⟩⟩⟩⟩,fmc ⟨by kernel_rfl,(fun _ h=>by cases h)⟩,mixed⟩
noncomputable def z_ci (W0:World) (S:Nat->Prop) (bs:List Nat:=[]):Cx:=⟨Tryz.prog,W0,S,33,[(3,ti3),(5,ti5),(22,ti22),(31,ti31),(37,ti37),(39,ti39),(57,ti57),(89,ti89)],[56],bs,none,[]⟩
abbrev z_bw:FuncId:=30
theorem z_jk:Tryz.prog.funcs[z_bw]?=some Tryz.f30:=Tryz.func30
theorem z_hp (W0:World) (S:Nat->Prop) (bs:List Nat:=[]):Good (z_ci W0 S bs):=⟨fmc ⟨ok3,fmc ⟨ok5,fmc ⟨ok22,fmc ⟨ok31,fmc ⟨ok37,fmc ⟨ok39,fmc ⟨ok57,fmc ⟨ok89,(fun _ h=>by cases h)⟩⟩⟩⟩⟩⟩⟩⟩,fmc ⟨by kernel_rfl,(fun _ h=>by cases h)⟩,mixed⟩
noncomputable def z_fS (W0:World) (S:Nat->Prop) (bs:List Nat:=[]):Cx:=⟨Tryz.prog,W0,S,18,[(3,ti3),(9,ti9),(22,ti22),(50,ti50),(92,ti92)],[24],bs,none,[]⟩
abbrev z_gD:FuncId:=31
theorem z_l9:Tryz.prog.funcs[z_gD]?=some Tryz.f31:=Tryz.func31
theorem z_jH (W0:World) (S:Nat->Prop) (bs:List Nat:=[]):Good (z_fS W0 S bs):=⟨fmc ⟨ok3,fmc ⟨ok9,fmc ⟨ok22,fmc ⟨ok50,fmc ⟨ok92,(fun _ h=>by cases h)⟩⟩⟩⟩⟩,fmc ⟨by kernel_rfl,(fun _ h=>by cases h)⟩,mixed⟩
noncomputable def z_e8 (W0:World) (S:Nat->Prop) (bs:List Nat:=[]):Cx:=⟨Tryz.prog,W0,S,100,[(3,ti3),(4,ti4),(5,ti5),(9,ti9),(22,ti22),(31,ti31),(37,ti37),(39,ti39),(43,ti43),(45,ti45),(50,ti50),(57,ti57),(89,ti89),(92,ti92),(105,ti105)],[52,57,58,59,60],bs,none,[]⟩
abbrev z_fO:FuncId:=32
theorem z_lv:Tryz.prog.funcs[z_fO]?=some Tryz.f32:=Tryz.func32
def z_jW:Plan:= .take 0 (.take 1 (.take 2 (.take 3 (.take 4 (.take 5 (.take 6 (.take 7 (.take 8 (.take 9 (.take 10 (.take 11 (.take 12 (.take 13 (.take 14 (.take 15 (.take 16 (.take 17 (.take 19 (.take 20 (.alt 18 (.take 21 (.exec 22 (.exec 23 (.done)))) (.exec 22 (.exec 18 (.take 21 (.exec 23 (.done)))))))))))))))))))))))))
def z_j9:Plan:= .take 0 (.take 1 (.take 2 (.take 3 (.take 4 (.exec 5 (.exec 6 (.take 7 (.take 8 (.take 9 (.take 10 (.take 11 (.take 12 (.take 13 (.done))))))))))))))
def z_ja:Plan:= .take 0 (.take 2 (.take 3 (.take 4 (.take 5 (.take 7 (.take 8 (.take 9 (.take 10 (.take 11 (.alt 1 (.alt 6 (.exec 12 (.exec 13 (.exec 14 (.take 15 (.brk 16 (.done)))))) (.exec 12 (.exec 6 (.exec 13 (.exec 14 (.take 15 (.brk 16 (.done)))))))) (.exec 12 (.exec 1 (.exec 6 (.exec 13 (.exec 14 (.take 15 (.brk 16 (.done))))))))))))))))))
def z_i7:Plan:= .take 0 (.take 3 (.take 6 (.exec 1 (.take 2 (.exec 4 (.take 5 (.take 7 (.exec 8 (.take 9 (.done))))))))))
theorem z_iR (W0:World) (S:Nat->Prop) (bs:List Nat:=[]):Good (z_e8 W0 S bs):=⟨fmc ⟨ok3,fmc ⟨ok4,fmc ⟨ok5,fmc ⟨ok9,fmc ⟨ok22,fmc ⟨ok31,fmc ⟨ok37,fmc ⟨ok39,fmc ⟨ok43,fmc ⟨ok45,fmc ⟨ok50,fmc ⟨ok57,fmc ⟨ok89,fmc ⟨ok92,fmc ⟨ok105,(fun _ h=>by cases h)⟩⟩⟩⟩⟩⟩⟩⟩⟩⟩⟩⟩⟩⟩⟩,fmc ⟨by kernel_rfl,fmc ⟨by kernel_rfl,fmc ⟨by kernel_rfl,fmc ⟨by kernel_rfl,fmc ⟨by kernel_rfl,(fun _ h=>by cases h)⟩⟩⟩⟩⟩,mixed⟩
noncomputable def z_a4 (W0:World) (S:Nat->Prop) (bs:List Nat:=[]):Cx:=⟨Tryz.prog,W0,S,13,[(22,ti22),(57,ti57)],[],bs,none,[]⟩
abbrev z_d2:FuncId:=33
theorem z_dZ:Tryz.prog.funcs[z_d2]?=some Tryz.f33:=Tryz.func33
theorem z_dl (W0:World) (S:Nat->Prop) (bs:List Nat:=[]):Good (z_a4 W0 S bs):=⟨fmc ⟨ok22,fmc ⟨ok57,(fun _ h=>by cases h)⟩⟩,(fun _ h=>by cases h),mixed⟩
noncomputable def z_bD (W0:World) (S:Nat->Prop) (bs:List Nat:=[]):Cx:=⟨Tryz.prog,W0,S,23,[(3,ti3),(4,ti4),(22,ti22),(25,ti25),(32,ti32),(57,ti57),(60,ti60),(84,ti84),(85,ti85),(87,ti87)],[35,36],bs,none,[]⟩
abbrev z_aG:FuncId:=34
theorem z_il:Tryz.prog.funcs[z_aG]?=some Tryz.f34:=Tryz.func34
theorem z_gw (W0:World) (S:Nat->Prop) (bs:List Nat:=[]):Good (z_bD W0 S bs):=⟨fmc ⟨ok3,fmc ⟨ok4,fmc ⟨ok22,fmc ⟨ok25,fmc ⟨ok32,fmc ⟨ok57,fmc ⟨ok60,fmc ⟨ok84,fmc ⟨ok85,fmc ⟨ok87,(fun _ h=>by cases h)⟩⟩⟩⟩⟩⟩⟩⟩⟩⟩,fmc ⟨by kernel_rfl,fmc ⟨by kernel_rfl,(fun _ h=>by cases h)⟩⟩,mixed⟩
noncomputable def z_a3 (W0:World) (S:Nat->Prop) (bs:List Nat:=[]):Cx:=⟨Tryz.prog,W0,S,9,[(22,ti22),(57,ti57),(60,ti60)],[12,61],bs,none,[]⟩
abbrev z_iK:FuncId:=35
theorem z_ef:Tryz.prog.funcs[z_iK]?=some Tryz.f35:=Tryz.func35
theorem z_c4 (W0:World) (S:Nat->Prop) (bs:List Nat:=[]):Good (z_a3 W0 S bs):=⟨fmc ⟨ok22,fmc ⟨ok57,fmc ⟨ok60,(fun _ h=>by cases h)⟩⟩⟩,fmc ⟨by kernel_rfl,fmc ⟨by kernel_rfl,(fun _ h=>by cases h)⟩⟩,mixed⟩
noncomputable def z_bb (W0:World) (S:Nat->Prop) (bs:List Nat:=[]):Cx:=⟨Tryz.prog,W0,S,4,[(4,ti4),(22,ti22),(85,ti85)],[62],bs,none,[]⟩
abbrev z_cF:FuncId:=36
theorem z_cC:Tryz.prog.funcs[z_cF]?=some Tryz.f36:=Tryz.func36
theorem z_b4 (W0:World) (S:Nat->Prop) (bs:List Nat:=[]):Good (z_bb W0 S bs):=⟨fmc ⟨ok4,fmc ⟨ok22,fmc ⟨ok85,(fun _ h=>by cases h)⟩⟩⟩,fmc ⟨by kernel_rfl,(fun _ h=>by cases h)⟩,mixed⟩
noncomputable def z_fT (W0:World) (S:Nat->Prop) (bs:List Nat:=[]):Cx:=⟨Tryz.prog,W0,S,25,[(3,ti3),(5,ti5),(22,ti22),(25,ti25),(26,ti26),(29,ti29),(31,ti31),(75,ti75),(77,ti77)],[55],bs,none,[]⟩
abbrev z_gX:FuncId:=37
theorem z_mM:Tryz.prog.funcs[z_gX]?=some Tryz.f37:=Tryz.func37
theorem z_kp (W0:World) (S:Nat->Prop) (bs:List Nat:=[]):Good (z_fT W0 S bs):=⟨fmc ⟨ok3,fmc ⟨ok5,fmc ⟨ok22,fmc ⟨ok25,fmc ⟨ok26,fmc ⟨ok29,fmc ⟨ok31,fmc ⟨ok75,fmc ⟨ok77,(fun _ h=>by cases h)⟩⟩⟩⟩⟩⟩⟩⟩⟩,fmc ⟨by kernel_rfl,(fun _ h=>by cases h)⟩,mixed⟩
noncomputable def z_pa (W0:World) (S:Nat->Prop) (bs:List Nat:=[]):Cx:=⟨Tryz.prog,W0,S,11,[(22,ti22)],[63],bs,none,[]⟩
abbrev z_nk:FuncId:=38
theorem z_uk:Tryz.prog.funcs[z_nk]?=some Tryz.f38:=Tryz.func38
theorem z_p6 (W0:World) (S:Nat->Prop) (bs:List Nat:=[]):Good (z_pa W0 S bs):=⟨fmc ⟨ok22,(fun _ h=>by cases h)⟩,fmc ⟨by kernel_rfl,(fun _ h=>by cases h)⟩,mixed⟩
noncomputable def z_eC (W0:World) (S:Nat->Prop) (bs:List Nat:=[]):Cx:=⟨Tryz.prog,W0,S,61,[(3,ti3),(5,ti5),(9,ti9),(22,ti22),(31,ti31),(46,ti46),(50,ti50),(57,ti57),(67,ti67)],[64,65],bs,none,[]⟩
abbrev z_ff:FuncId:=39
theorem z_kL:Tryz.prog.funcs[z_ff]?=some Tryz.f39:=Tryz.func39
theorem z_hW (W0:World) (S:Nat->Prop) (bs:List Nat:=[]):Good (z_eC W0 S bs):=⟨fmc ⟨ok3,fmc ⟨ok5,fmc ⟨ok9,fmc ⟨ok22,fmc ⟨ok31,fmc ⟨ok46,fmc ⟨ok50,fmc ⟨ok57,fmc ⟨ok67,(fun _ h=>by cases h)⟩⟩⟩⟩⟩⟩⟩⟩⟩,fmc ⟨by kernel_rfl,fmc ⟨by kernel_rfl,(fun _ h=>by cases h)⟩⟩,mixed⟩
noncomputable def z_ej (W0:World) (S:Nat->Prop) (bs:List Nat:=[]):Cx:=⟨Tryz.prog,W0,S,28,[(3,ti3),(5,ti5),(22,ti22),(25,ti25),(29,ti29),(31,ti31),(75,ti75),(77,ti77),(137,ti137)],[37,45],bs,none,[]⟩
abbrev z_eZ:FuncId:=40
theorem z_nR:Tryz.prog.funcs[z_eZ]?=some Tryz.f40:=Tryz.func40
theorem z_lp (W0:World) (S:Nat->Prop) (bs:List Nat:=[]):Good (z_ej W0 S bs):=⟨fmc ⟨ok3,fmc ⟨ok5,fmc ⟨ok22,fmc ⟨ok25,fmc ⟨ok29,fmc ⟨ok31,fmc ⟨ok75,fmc ⟨ok77,fmc ⟨ok137,(fun _ h=>by cases h)⟩⟩⟩⟩⟩⟩⟩⟩⟩,fmc ⟨by kernel_rfl,fmc ⟨by kernel_rfl,(fun _ h=>by cases h)⟩⟩,mixed⟩
noncomputable def z_iy (W0:World) (S:Nat->Prop) (bs:List Nat:=[]):Cx:=⟨Tryz.prog,W0,S,5,[(4,ti4),(5,ti5),(9,ti9),(31,ti31)],[66],bs,none,[]⟩
abbrev z_kr:FuncId:=41
theorem z_ot:Tryz.prog.funcs[z_kr]?=some Tryz.f41:=Tryz.func41
theorem z_mi (W0:World) (S:Nat->Prop) (bs:List Nat:=[]):Good (z_iy W0 S bs):=⟨fmc ⟨ok4,fmc ⟨ok5,fmc ⟨ok9,fmc ⟨ok31,(fun _ h=>by cases h)⟩⟩⟩⟩,fmc ⟨by kernel_rfl,(fun _ h=>by cases h)⟩,mixed⟩
noncomputable def z_jS (W0:World) (S:Nat->Prop) (bs:List Nat:=[]):Cx:=⟨Tryz.prog,W0,S,48,[(3,ti3),(5,ti5),(9,ti9),(26,ti26),(31,ti31)],[67,68],bs,none,[]⟩
abbrev z_lb:FuncId:=42
theorem z_ps:Tryz.prog.funcs[z_lb]?=some Tryz.f42:=Tryz.func42
theorem z_np (W0:World) (S:Nat->Prop) (bs:List Nat:=[]):Good (z_jS W0 S bs):=⟨fmc ⟨ok3,fmc ⟨ok5,fmc ⟨ok9,fmc ⟨ok26,fmc ⟨ok31,(fun _ h=>by cases h)⟩⟩⟩⟩⟩,fmc ⟨by kernel_rfl,fmc ⟨by kernel_rfl,(fun _ h=>by cases h)⟩⟩,mixed⟩
noncomputable def z_k3 (W0:World) (S:Nat->Prop) (bs:List Nat:=[]):Cx:=⟨Tryz.prog,W0,S,62,[(3,ti3),(4,ti4),(5,ti5),(9,ti9),(22,ti22),(31,ti31),(50,ti50),(67,ti67),(142,ti142),(144,ti144)],[64,69,70],bs,none,[]⟩
abbrev z_mb:FuncId:=43
theorem z_ql:Tryz.prog.funcs[z_mb]?=some Tryz.f43:=Tryz.func43
theorem z_nY (W0:World) (S:Nat->Prop) (bs:List Nat:=[]):Good (z_k3 W0 S bs):=⟨fmc ⟨ok3,fmc ⟨ok4,fmc ⟨ok5,fmc ⟨ok9,fmc ⟨ok22,fmc ⟨ok31,fmc ⟨ok50,fmc ⟨ok67,fmc ⟨ok142,fmc ⟨ok144,(fun _ h=>by cases h)⟩⟩⟩⟩⟩⟩⟩⟩⟩⟩,fmc ⟨by kernel_rfl,fmc ⟨by kernel_rfl,fmc ⟨by kernel_rfl,(fun _ h=>by cases h)⟩⟩⟩,mixed⟩
noncomputable def z_dd (W0:World) (S:Nat->Prop) (bs:List Nat:=[]):Cx:=⟨Tryz.prog,W0,S,32,[(3,ti3),(5,ti5),(22,ti22),(25,ti25),(26,ti26),(29,ti29),(31,ti31),(75,ti75),(77,ti77),(137,ti137)],[45,55,71],bs,none,[]⟩
abbrev z_cm:FuncId:=44
theorem z_lY:Tryz.prog.funcs[z_cm]?=some Tryz.f44:=Tryz.func44
theorem z_jR (W0:World) (S:Nat->Prop) (bs:List Nat:=[]):Good (z_dd W0 S bs):=⟨fmc ⟨ok3,fmc ⟨ok5,fmc ⟨ok22,fmc ⟨ok25,fmc ⟨ok26,fmc ⟨ok29,fmc ⟨ok31,fmc ⟨ok75,fmc ⟨ok77,fmc ⟨ok137,(fun _ h=>by cases h)⟩⟩⟩⟩⟩⟩⟩⟩⟩⟩,fmc ⟨by kernel_rfl,fmc ⟨by kernel_rfl,fmc ⟨by kernel_rfl,(fun _ h=>by cases h)⟩⟩⟩,mixed⟩
noncomputable def z_hl (W0:World) (S:Nat->Prop) (bs:List Nat:=[]):Cx:=⟨Tryz.prog,W0,S,24,[(3,ti3),(4,ti4),(5,ti5),(9,ti9),(29,ti29),(31,ti31),(80,ti80),(81,ti81),(83,ti83),(137,ti137),(150,ti150),(152,ti152)],[72,73,74],bs,none,[]⟩
abbrev z_fC:FuncId:=45
theorem z_qr:Tryz.prog.funcs[z_fC]?=some Tryz.f45:=Tryz.func45
theorem z_n1 (W0:World) (S:Nat->Prop) (bs:List Nat:=[]):Good (z_hl W0 S bs):=⟨fmc ⟨ok3,fmc ⟨ok4,fmc ⟨ok5,fmc ⟨ok9,fmc ⟨ok29,fmc ⟨ok31,fmc ⟨ok80,fmc ⟨ok81,fmc ⟨ok83,fmc ⟨ok137,fmc ⟨ok150,fmc ⟨ok152,(fun _ h=>by cases h)⟩⟩⟩⟩⟩⟩⟩⟩⟩⟩⟩⟩,fmc ⟨by kernel_rfl,fmc ⟨by kernel_rfl,fmc ⟨by kernel_rfl,(fun _ h=>by cases h)⟩⟩⟩,mixed⟩
noncomputable def z_eP (W0:World) (S:Nat->Prop) (bs:List Nat:=[]):Cx:=⟨Tryz.prog,W0,S,8,[(3,ti3),(22,ti22)],[75],bs,none,[]⟩
abbrev z_fq:FuncId:=46
theorem z_kK:Tryz.prog.funcs[z_fq]?=some Tryz.f46:=Tryz.func46
theorem z_hU (W0:World) (S:Nat->Prop) (bs:List Nat:=[]):Good (z_eP W0 S bs):=⟨fmc ⟨ok3,fmc ⟨ok22,(fun _ h=>by cases h)⟩⟩,fmc ⟨by kernel_rfl,(fun _ h=>by cases h)⟩,mixed⟩
noncomputable def z_gh (W0:World) (S:Nat->Prop) (bs:List Nat:=[]):Cx:=⟨Tryz.prog,W0,S,4,[(25,ti25)],[76],bs,none,[]⟩
abbrev z_gR:FuncId:=47
theorem z_mf:Tryz.prog.funcs[z_gR]?=some Tryz.f47:=Tryz.func47
theorem z_jD (W0:World) (S:Nat->Prop) (bs:List Nat:=[]):Good (z_gh W0 S bs):=⟨fmc ⟨ok25,(fun _ h=>by cases h)⟩,fmc ⟨by kernel_rfl,(fun _ h=>by cases h)⟩,mixed⟩
noncomputable def z_di (W0:World) (S:Nat->Prop) (bs:List Nat:=[]):Cx:=⟨Tryz.prog,W0,S,18,[(3,ti3),(5,ti5),(9,ti9),(22,ti22),(31,ti31),(39,ti39),(57,ti57),(89,ti89)],[78,79],bs,none,[]⟩
abbrev z_g0:FuncId:=48
theorem z_mA:Tryz.prog.funcs[z_g0]?=some Tryz.f48:=Tryz.func48
def z_kO:Plan:= .take 0 (.take 1 (.take 2 (.take 3 (.take 4 (.take 5 (.take 6 (.take 7 (.take 8 (.exec 9 (.take 10 (.exec 11 (.exec 12 (.take 13 (.done))))))))))))))
theorem z_kl (W0:World) (S:Nat->Prop) (bs:List Nat:=[]):Good (z_di W0 S bs):=⟨fmc ⟨ok3,fmc ⟨ok5,fmc ⟨ok9,fmc ⟨ok22,fmc ⟨ok31,fmc ⟨ok39,fmc ⟨ok57,fmc ⟨ok89,(fun _ h=>by cases h)⟩⟩⟩⟩⟩⟩⟩⟩,fmc ⟨by kernel_rfl,fmc ⟨by kernel_rfl,(fun _ h=>by cases h)⟩⟩,mixed⟩
noncomputable def z_eW (W0:World) (S:Nat->Prop) (bs:List Nat:=[]):Cx:=⟨Tryz.prog,W0,S,57,[(3,ti3),(4,ti4),(5,ti5),(9,ti9),(31,ti31)],[80],bs,none,[]⟩
abbrev z_fc:FuncId:=49
theorem z_kT:Tryz.prog.funcs[z_fc]?=some Tryz.f49:=Tryz.func49
theorem z_ii (W0:World) (S:Nat->Prop) (bs:List Nat:=[]):Good (z_eW W0 S bs):=⟨fmc ⟨ok3,fmc ⟨ok4,fmc ⟨ok5,fmc ⟨ok9,fmc ⟨ok31,(fun _ h=>by cases h)⟩⟩⟩⟩⟩,fmc ⟨by kernel_rfl,(fun _ h=>by cases h)⟩,mixed⟩
noncomputable def z_c0 (W0:World) (S:Nat->Prop) (bs:List Nat:=[]):Cx:=⟨Tryz.prog,W0,S,91,[(3,ti3),(5,ti5),(9,ti9),(22,ti22),(31,ti31),(46,ti46),(50,ti50),(92,ti92)],[58,81,82],bs,none,[]⟩
abbrev z_fV:FuncId:=50
theorem z_ly:Tryz.prog.funcs[z_fV]?=some Tryz.f50:=Tryz.func50
def z_kj:Plan:= .take 0 (.take 1 (.take 3 (.take 4 (.take 6 (.take 7 (.take 9 (.take 10 (.take 12 (.take 13 (.alt 2 (.alt 5 (.alt 8 (.alt 11 (.alt 14 (.take 15 (.exec 16 (.exec 17 (.done)))) (.exec 16 (.exec 14 (.take 15 (.exec 17 (.done)))))) (.exec 16 (.exec 11 (.exec 14 (.take 15 (.exec 17 (.done))))))) (.exec 16 (.exec 8 (.exec 11 (.exec 14 (.take 15 (.exec 17 (.done)))))))) (.exec 16 (.exec 5 (.exec 8 (.exec 11 (.exec 14 (.take 15 (.exec 17 (.done))))))))) (.exec 16 (.exec 2 (.exec 5 (.exec 8 (.exec 11 (.exec 14 (.take 15 (.exec 17 (.done)))))))))))))))))))
def z_iU:Plan:= .take 0 (.take 1 (.take 2 (.take 3 (.take 4 (.take 5 (.take 8 (.take 9 (.take 10 (.take 11 (.exec 6 (.exec 7 (.take 12 (.take 13 (.done))))))))))))))
def z_iV:Plan:= .take 0 (.take 1 (.take 2 (.take 3 (.take 4 (.take 5 (.take 6 (.take 7 (.take 8 (.take 9 (.take 10 (.exec 11 (.done))))))))))))
theorem z_iS (W0:World) (S:Nat->Prop) (bs:List Nat:=[]):Good (z_c0 W0 S bs):=⟨fmc ⟨ok3,fmc ⟨ok5,fmc ⟨ok9,fmc ⟨ok22,fmc ⟨ok31,fmc ⟨ok46,fmc ⟨ok50,fmc ⟨ok92,(fun _ h=>by cases h)⟩⟩⟩⟩⟩⟩⟩⟩,fmc ⟨by kernel_rfl,fmc ⟨by kernel_rfl,fmc ⟨by kernel_rfl,(fun _ h=>by cases h)⟩⟩⟩,mixed⟩
noncomputable def z_ch (W0:World) (S:Nat->Prop) (bs:List Nat:=[]):Cx:=⟨Tryz.prog,W0,S,26,[(3,ti3),(5,ti5),(22,ti22),(31,ti31),(37,ti37),(39,ti39),(57,ti57),(89,ti89)],[78,82,83],bs,none,[]⟩
abbrev z_cI:FuncId:=51
theorem z_jz:Tryz.prog.funcs[z_cI]?=some Tryz.f51:=Tryz.func51
theorem z_hD (W0:World) (S:Nat->Prop) (bs:List Nat:=[]):Good (z_ch W0 S bs):=⟨fmc ⟨ok3,fmc ⟨ok5,fmc ⟨ok22,fmc ⟨ok31,fmc ⟨ok37,fmc ⟨ok39,fmc ⟨ok57,fmc ⟨ok89,(fun _ h=>by cases h)⟩⟩⟩⟩⟩⟩⟩⟩,fmc ⟨by kernel_rfl,fmc ⟨by kernel_rfl,fmc ⟨by kernel_rfl,(fun _ h=>by cases h)⟩⟩⟩,mixed⟩
noncomputable def z_eb (W0:World) (S:Nat->Prop) (bs:List Nat:=[]):Cx:=⟨Tryz.prog,W0,S,7,[(5,ti5),(31,ti31)],[],bs,none,[]⟩
abbrev z_eF:FuncId:=52
theorem z_jM:Tryz.prog.funcs[z_eF]?=some Tryz.f52:=Tryz.func52
theorem z_hq (W0:World) (S:Nat->Prop) (bs:List Nat:=[]):Good (z_eb W0 S bs):=⟨fmc ⟨ok5,fmc ⟨ok31,(fun _ h=>by cases h)⟩⟩,(fun _ h=>by cases h),mixed⟩
noncomputable def z_fn (W0:World) (S:Nat->Prop) (bs:List Nat:=[]):Cx:=⟨Tryz.prog,W0,S,23,[(3,ti3),(4,ti4),(22,ti22),(37,ti37),(43,ti43),(45,ti45),(105,ti105)],[],bs,none,[]⟩
abbrev z_fR:FuncId:=53
theorem z_lt:Tryz.prog.funcs[z_fR]?=some Tryz.f53:=Tryz.func53
theorem z_i5 (W0:World) (S:Nat->Prop) (bs:List Nat:=[]):Good (z_fn W0 S bs):=⟨fmc ⟨ok3,fmc ⟨ok4,fmc ⟨ok22,fmc ⟨ok37,fmc ⟨ok43,fmc ⟨ok45,fmc ⟨ok105,(fun _ h=>by cases h)⟩⟩⟩⟩⟩⟩⟩,(fun _ h=>by cases h),mixed⟩
noncomputable def z_a1 (W0:World) (S:Nat->Prop) (bs:List Nat:=[]):Cx:=⟨Tryz.prog,W0,S,4,[(22,ti22),(84,ti84)],[84],bs,none,[]⟩
abbrev z_b1:FuncId:=54
theorem z_b0:Tryz.prog.funcs[z_b1]?=some Tryz.f54:=Tryz.func54
theorem z_bB (W0:World) (S:Nat->Prop) (bs:List Nat:=[]):Good (z_a1 W0 S bs):=⟨fmc ⟨ok22,fmc ⟨ok84,(fun _ h=>by cases h)⟩⟩,fmc ⟨by kernel_rfl,(fun _ h=>by cases h)⟩,mixed⟩
noncomputable def z_ix (W0:World) (S:Nat->Prop) (bs:List Nat:=[]):Cx:=⟨Tryz.prog,W0,S,23,[(3,ti3),(5,ti5),(22,ti22),(25,ti25),(29,ti29),(31,ti31),(75,ti75),(77,ti77)],[20],bs,none,[]⟩
abbrev z_jq:FuncId:=55
theorem z_ol:Tryz.prog.funcs[z_jq]?=some Tryz.f55:=Tryz.func55
theorem z_mc (W0:World) (S:Nat->Prop) (bs:List Nat:=[]):Good (z_ix W0 S bs):=⟨fmc ⟨ok3,fmc ⟨ok5,fmc ⟨ok22,fmc ⟨ok25,fmc ⟨ok29,fmc ⟨ok31,fmc ⟨ok75,fmc ⟨ok77,(fun _ h=>by cases h)⟩⟩⟩⟩⟩⟩⟩⟩,fmc ⟨by kernel_rfl,(fun _ h=>by cases h)⟩,mixed⟩
noncomputable def z_f1 (W0:World) (S:Nat->Prop) (bs:List Nat:=[]):Cx:=⟨Tryz.prog,W0,S,20,[(3,ti3),(5,ti5),(22,ti22),(31,ti31),(39,ti39),(57,ti57),(89,ti89)],[],bs,none,[]⟩
abbrev z_gy:FuncId:=56
theorem z_mq:Tryz.prog.funcs[z_gy]?=some Tryz.f56:=Tryz.func56
theorem z_ju (W0:World) (S:Nat->Prop) (bs:List Nat:=[]):Good (z_f1 W0 S bs):=⟨fmc ⟨ok3,fmc ⟨ok5,fmc ⟨ok22,fmc ⟨ok31,fmc ⟨ok39,fmc ⟨ok57,fmc ⟨ok89,(fun _ h=>by cases h)⟩⟩⟩⟩⟩⟩⟩,(fun _ h=>by cases h),mixed⟩
noncomputable def z_gr (W0:World) (S:Nat->Prop) (bs:List Nat:=[]):Cx:=⟨Tryz.prog,W0,S,11,[(22,ti22)],[85],bs,none,[]⟩
abbrev z_gF:FuncId:=57
theorem z_mP:Tryz.prog.funcs[z_gF]?=some Tryz.f57:=Tryz.func57
theorem z_ki (W0:World) (S:Nat->Prop) (bs:List Nat:=[]):Good (z_gr W0 S bs):=⟨fmc ⟨ok22,(fun _ h=>by cases h)⟩,fmc ⟨by kernel_rfl,(fun _ h=>by cases h)⟩,mixed⟩
noncomputable def z_cU (W0:World) (S:Nat->Prop) (bs:List Nat:=[]):Cx:=⟨Tryz.prog,W0,S,57,[(3,ti3),(5,ti5),(9,ti9),(22,ti22),(31,ti31),(46,ti46),(50,ti50),(92,ti92)],[86,87],bs,none,[]⟩
abbrev z_go:FuncId:=58
theorem z_lo:Tryz.prog.funcs[z_go]?=some Tryz.f58:=Tryz.func58
def z_jj:Plan:= .take 0 (.take 1 (.take 2 (.take 5 (.take 6 (.take 9 (.take 10 (.take 13 (.take 14 (.exec 3 (.exec 4 (.exec 7 (.exec 8 (.exec 11 (.exec 12 (.exec 15 (.exec 16 (.take 17 (.done))))))))))))))))))
theorem z_iY (W0:World) (S:Nat->Prop) (bs:List Nat:=[]):Good (z_cU W0 S bs):=⟨fmc ⟨ok3,fmc ⟨ok5,fmc ⟨ok9,fmc ⟨ok22,fmc ⟨ok31,fmc ⟨ok46,fmc ⟨ok50,fmc ⟨ok92,(fun _ h=>by cases h)⟩⟩⟩⟩⟩⟩⟩⟩,fmc ⟨by kernel_rfl,fmc ⟨by kernel_rfl,(fun _ h=>by cases h)⟩⟩,mixed⟩
noncomputable def z_cQ (W0:World) (S:Nat->Prop) (bs:List Nat:=[]):Cx:=⟨Tryz.prog,W0,S,28,[(3,ti3),(5,ti5),(22,ti22),(31,ti31),(37,ti37),(39,ti39),(57,ti57),(89,ti89)],[78,83],bs,none,[]⟩
abbrev z_f6:FuncId:=59
theorem z_lx:Tryz.prog.funcs[z_f6]?=some Tryz.f59:=Tryz.func59
def z_j7:Plan:= .take 0 (.take 1 (.take 2 (.take 3 (.take 4 (.take 5 (.take 6 (.take 7 (.take 8 (.take 9 (.exec 10 (.take 11 (.take 12 (.take 13 (.done))))))))))))))
theorem z_i9 (W0:World) (S:Nat->Prop) (bs:List Nat:=[]):Good (z_cQ W0 S bs):=⟨fmc ⟨ok3,fmc ⟨ok5,fmc ⟨ok22,fmc ⟨ok31,fmc ⟨ok37,fmc ⟨ok39,fmc ⟨ok57,fmc ⟨ok89,(fun _ h=>by cases h)⟩⟩⟩⟩⟩⟩⟩⟩,fmc ⟨by kernel_rfl,fmc ⟨by kernel_rfl,(fun _ h=>by cases h)⟩⟩,mixed⟩
noncomputable def z_ce (W0:World) (S:Nat->Prop) (bs:List Nat:=[]):Cx:=⟨Tryz.prog,W0,S,64,[(3,ti3),(4,ti4),(5,ti5),(9,ti9),(31,ti31)],[88],bs,none,[]⟩
abbrev z_eS:FuncId:=60
theorem z_jn:Tryz.prog.funcs[z_eS]?=some Tryz.f60:=Tryz.func60
theorem z_hK (W0:World) (S:Nat->Prop) (bs:List Nat:=[]):Good (z_ce W0 S bs):=⟨fmc ⟨ok3,fmc ⟨ok4,fmc ⟨ok5,fmc ⟨ok9,fmc ⟨ok31,(fun _ h=>by cases h)⟩⟩⟩⟩⟩,fmc ⟨by kernel_rfl,(fun _ h=>by cases h)⟩,mixed⟩
noncomputable def z_a0 (W0:World) (S:Nat->Prop) (bs:List Nat:=[]):Cx:=⟨Tryz.prog,W0,S,11,[(3,ti3),(22,ti22),(57,ti57),(163,ti163)],[89,90],bs,none,[]⟩
abbrev z_bq:FuncId:=61
theorem z_cE:Tryz.prog.funcs[z_bq]?=some Tryz.f61:=Tryz.func61
theorem z_bU (W0:World) (S:Nat->Prop) (bs:List Nat:=[]):Good (z_a0 W0 S bs):=⟨fmc ⟨ok3,fmc ⟨ok22,fmc ⟨ok57,fmc ⟨ok163,(fun _ h=>by cases h)⟩⟩⟩⟩,fmc ⟨by kernel_rfl,fmc ⟨by kernel_rfl,(fun _ h=>by cases h)⟩⟩,mixed⟩
noncomputable def z_aI (W0:World) (S:Nat->Prop) (bs:List Nat:=[]):Cx:=⟨Tryz.prog,W0,S,14,[(4,ti4),(22,ti22),(85,ti85)],[],bs,none,[]⟩
abbrev z_cf:FuncId:=62
theorem z_cd:Tryz.prog.funcs[z_cf]?=some Tryz.f62:=Tryz.func62
theorem z_bO (W0:World) (S:Nat->Prop) (bs:List Nat:=[]):Good (z_aI W0 S bs):=⟨fmc ⟨ok4,fmc ⟨ok22,fmc ⟨ok85,(fun _ h=>by cases h)⟩⟩⟩,(fun _ h=>by cases h),mixed⟩
noncomputable def z_nz (W0:World) (S:Nat->Prop) (bs:List Nat:=[]):Cx:=⟨Tryz.prog,W0,S,5,[(22,ti22)],[],bs,none,[]⟩
abbrev z_oM:FuncId:=63
theorem z_sk:Tryz.prog.funcs[z_oM]?=some Tryz.f63:=Tryz.func63
theorem z_pz (W0:World) (S:Nat->Prop) (bs:List Nat:=[]):Good (z_nz W0 S bs):=⟨fmc ⟨ok22,(fun _ h=>by cases h)⟩,(fun _ h=>by cases h),mixed⟩
noncomputable def z_cb (W0:World) (S:Nat->Prop) (bs:List Nat:=[]):Cx:=⟨Tryz.prog,W0,S,62,[(9,ti9),(22,ti22),(26,ti26),(50,ti50),(67,ti67)],[91,92,93],bs,none,[]⟩
abbrev z_eR:FuncId:=64
theorem z_jl:Tryz.prog.funcs[z_eR]?=some Tryz.f64:=Tryz.func64
theorem z_hS (W0:World) (S:Nat->Prop) (bs:List Nat:=[]):Good (z_cb W0 S bs):=⟨fmc ⟨ok9,fmc ⟨ok22,fmc ⟨ok26,fmc ⟨ok50,fmc ⟨ok67,(fun _ h=>by cases h)⟩⟩⟩⟩⟩,fmc ⟨by kernel_rfl,fmc ⟨by kernel_rfl,fmc ⟨by kernel_rfl,(fun _ h=>by cases h)⟩⟩⟩,mixed⟩
noncomputable def z_mo (W0:World) (S:Nat->Prop) (bs:List Nat:=[]):Cx:=⟨Tryz.prog,W0,S,22,[(3,ti3),(5,ti5),(22,ti22),(31,ti31)],[],bs,none,[]⟩
abbrev z_nI:FuncId:=65
theorem z_rk:Tryz.prog.funcs[z_nI]?=some Tryz.f65:=Tryz.func65
theorem z_ou (W0:World) (S:Nat->Prop) (bs:List Nat:=[]):Good (z_mo W0 S bs):=⟨fmc ⟨ok3,fmc ⟨ok5,fmc ⟨ok22,fmc ⟨ok31,(fun _ h=>by cases h)⟩⟩⟩⟩,(fun _ h=>by cases h),mixed⟩
noncomputable def z_pF (W0:World) (S:Nat->Prop) (bs:List Nat:=[]):Cx:=⟨Tryz.prog,W0,S,25,[(3,ti3),(4,ti4),(5,ti5),(9,ti9),(31,ti31),(168,ti168),(170,ti170)],[94,95,96,97,98,99],bs,none,[]⟩
abbrev z_rL:FuncId:=66
theorem z_uD:Tryz.prog.funcs[z_rL]?=some Tryz.f66:=Tryz.func66
theorem z_q4 (W0:World) (S:Nat->Prop) (bs:List Nat:=[]):Good (z_pF W0 S bs):=⟨fmc ⟨ok3,fmc ⟨ok4,fmc ⟨ok5,fmc ⟨ok9,fmc ⟨ok31,fmc ⟨ok168,fmc ⟨ok170,(fun _ h=>by cases h)⟩⟩⟩⟩⟩⟩⟩,fmc ⟨by kernel_rfl,fmc ⟨by kernel_rfl,fmc ⟨by kernel_rfl,fmc ⟨by kernel_rfl,fmc ⟨by kernel_rfl,fmc ⟨by kernel_rfl,(fun _ h=>by cases h)⟩⟩⟩⟩⟩⟩,mixed⟩
abbrev z_qv:FuncId:=67
noncomputable def z_iC (W0:World) (S:Nat->Prop) (bs:List Nat:=[]):Cx:=⟨Tryz.prog,W0,S,12,[(3,ti3),(9,ti9)],[101],bs,none,[]⟩
abbrev z_ke:FuncId:=68
theorem z_pn:Tryz.prog.funcs[z_ke]?=some Tryz.f68:=Tryz.func68
theorem z_mQ (W0:World) (S:Nat->Prop) (bs:List Nat:=[]):Good (z_iC W0 S bs):=⟨fmc ⟨ok3,fmc ⟨ok9,(fun _ h=>by cases h)⟩⟩,fmc ⟨by kernel_rfl,(fun _ h=>by cases h)⟩,mixed⟩
noncomputable def z_fr (W0:World) (S:Nat->Prop) (bs:List Nat:=[]):Cx:=⟨Tryz.prog,W0,S,23,[(3,ti3),(5,ti5),(22,ti22),(31,ti31),(142,ti142)],[102],bs,none,[]⟩
abbrev z_f2:FuncId:=69
theorem z_ls:Tryz.prog.funcs[z_f2]?=some Tryz.f69:=Tryz.func69
theorem z_iT (W0:World) (S:Nat->Prop) (bs:List Nat:=[]):Good (z_fr W0 S bs):=⟨fmc ⟨ok3,fmc ⟨ok5,fmc ⟨ok22,fmc ⟨ok31,fmc ⟨ok142,(fun _ h=>by cases h)⟩⟩⟩⟩⟩,fmc ⟨by kernel_rfl,(fun _ h=>by cases h)⟩,mixed⟩
noncomputable def z_eA (W0:World) (S:Nat->Prop) (bs:List Nat:=[]):Cx:=⟨Tryz.prog,W0,S,9,[(3,ti3),(5,ti5),(9,ti9),(22,ti22),(31,ti31),(142,ti142)],[69,102],bs,none,[]⟩
abbrev z_fk:FuncId:=70
theorem z_kA:Tryz.prog.funcs[z_fk]?=some Tryz.f70:=Tryz.func70
theorem z_h6 (W0:World) (S:Nat->Prop) (bs:List Nat:=[]):Good (z_eA W0 S bs):=⟨fmc ⟨ok3,fmc ⟨ok5,fmc ⟨ok9,fmc ⟨ok22,fmc ⟨ok31,fmc ⟨ok142,(fun _ h=>by cases h)⟩⟩⟩⟩⟩⟩,fmc ⟨by kernel_rfl,fmc ⟨by kernel_rfl,(fun _ h=>by cases h)⟩⟩,mixed⟩
noncomputable def z_mV (W0:World) (S:Nat->Prop) (bs:List Nat:=[]):Cx:=⟨Tryz.prog,W0,S,31,[(3,ti3),(5,ti5),(31,ti31)],[],bs,none,[]⟩
abbrev z_nJ:FuncId:=71
theorem z_qU:Tryz.prog.funcs[z_nJ]?=some Tryz.f71:=Tryz.func71
def z_px:Plan:= .take 0 (.take 1 (.take 2 (.take 3 (.take 4 (.take 5 (.take 6 (.take 7 (.take 8 (.take 9 (.take 10 (.take 11 (.done))))))))))))
theorem z_oT (W0:World) (S:Nat->Prop) (bs:List Nat:=[]):Good (z_mV W0 S bs):=⟨fmc ⟨ok3,fmc ⟨ok5,fmc ⟨ok31,(fun _ h=>by cases h)⟩⟩⟩,(fun _ h=>by cases h),mixed⟩
noncomputable def z_g4 (W0:World) (S:Nat->Prop) (bs:List Nat:=[]):Cx:=⟨Tryz.prog,W0,S,61,[(3,ti3),(4,ti4),(5,ti5),(9,ti9),(31,ti31),(80,ti80),(81,ti81),(83,ti83),(150,ti150),(152,ti152)],[103,104,105],bs,none,[]⟩
abbrev z_mn:FuncId:=72
theorem z_qa:Tryz.prog.funcs[z_mn]?=some Tryz.f72:=Tryz.func72
def z_pb:Plan:= .take 0 (.take 1 (.take 2 (.take 3 (.take 4 (.take 5 (.exec 6 (.exec 7 (.exec 8 (.exec 9 (.take 10 (.brk 11 (.done))))))))))))
def z_ph:Plan:= .take 0 (.take 1 (.take 2 (.take 3 (.take 4 (.take 5 (.take 6 (.take 7 (.take 8 (.take 9 (.exec 10 (.done)))))))))))
theorem z_nT (W0:World) (S:Nat->Prop) (bs:List Nat:=[]):Good (z_g4 W0 S bs):=⟨fmc ⟨ok3,fmc ⟨ok4,fmc ⟨ok5,fmc ⟨ok9,fmc ⟨ok31,fmc ⟨ok80,fmc ⟨ok81,fmc ⟨ok83,fmc ⟨ok150,fmc ⟨ok152,(fun _ h=>by cases h)⟩⟩⟩⟩⟩⟩⟩⟩⟩⟩,fmc ⟨by kernel_rfl,fmc ⟨by kernel_rfl,fmc ⟨by kernel_rfl,(fun _ h=>by cases h)⟩⟩⟩,mixed⟩
noncomputable def z_ia (W0:World) (S:Nat->Prop) (bs:List Nat:=[]):Cx:=⟨Tryz.prog,W0,S,92,[(3,ti3),(5,ti5),(9,ti9),(31,ti31),(137,ti137)],[],bs,none,[]⟩
abbrev z_bV:FuncId:=73
theorem z_rq:Tryz.prog.funcs[z_bV]?=some Tryz.f73:=Tryz.func73
theorem z_oG (W0:World) (S:Nat->Prop) (bs:List Nat:=[]):Good (z_ia W0 S bs):=⟨fmc ⟨ok3,fmc ⟨ok5,fmc ⟨ok9,fmc ⟨ok31,fmc ⟨ok137,(fun _ h=>by cases h)⟩⟩⟩⟩⟩,(fun _ h=>by cases h),mixed⟩
noncomputable def z_o1 (W0:World) (S:Nat->Prop) (bs:List Nat:=[]):Cx:=⟨Tryz.prog,W0,S,17,[(5,ti5),(31,ti31),(137,ti137)],[73,107,108],bs,none,[]⟩
abbrev z_pK:FuncId:=74
theorem z_tE:Tryz.prog.funcs[z_pK]?=some Tryz.f74:=Tryz.func74
theorem z_qq (W0:World) (S:Nat->Prop) (bs:List Nat:=[]):Good (z_o1 W0 S bs):=⟨fmc ⟨ok5,fmc ⟨ok31,fmc ⟨ok137,(fun _ h=>by cases h)⟩⟩⟩,fmc ⟨by kernel_rfl,fmc ⟨by kernel_rfl,fmc ⟨by kernel_rfl,(fun _ h=>by cases h)⟩⟩⟩,mixed⟩
noncomputable def z_bR (W0:World) (S:Nat->Prop) (bs:List Nat:=[]):Cx:=⟨Tryz.prog,W0,S,32,[(3,ti3),(4,ti4),(5,ti5),(9,ti9),(22,ti22),(31,ti31),(187,ti187)],[109,110,111,112],bs,none,[]⟩
abbrev z_b8:FuncId:=75
theorem z_e4:Tryz.prog.funcs[z_b8]?=some Tryz.f75:=Tryz.func75
theorem z_d3 (W0:World) (S:Nat->Prop) (bs:List Nat:=[]):Good (z_bR W0 S bs):=⟨fmc ⟨ok3,fmc ⟨ok4,fmc ⟨ok5,fmc ⟨ok9,fmc ⟨ok22,fmc ⟨ok31,fmc ⟨ok187,(fun _ h=>by cases h)⟩⟩⟩⟩⟩⟩⟩,fmc ⟨by kernel_rfl,fmc ⟨by kernel_rfl,fmc ⟨by kernel_rfl,fmc ⟨by kernel_rfl,(fun _ h=>by cases h)⟩⟩⟩⟩,mixed⟩
noncomputable def z_ct (W0:World) (S:Nat->Prop) (bs:List Nat:=[]):Cx:=⟨Tryz.prog,W0,S,23,[(3,ti3),(5,ti5),(22,ti22),(25,ti25),(29,ti29),(31,ti31),(57,ti57),(60,ti60),(75,ti75),(77,ti77)],[35,77],bs,none,[]⟩
abbrev z_cY:FuncId:=76
theorem z_kJ:Tryz.prog.funcs[z_cY]?=some Tryz.f76:=Tryz.func76
theorem z_h4 (W0:World) (S:Nat->Prop) (bs:List Nat:=[]):Good (z_ct W0 S bs):=⟨fmc ⟨ok3,fmc ⟨ok5,fmc ⟨ok22,fmc ⟨ok25,fmc ⟨ok29,fmc ⟨ok31,fmc ⟨ok57,fmc ⟨ok60,fmc ⟨ok75,fmc ⟨ok77,(fun _ h=>by cases h)⟩⟩⟩⟩⟩⟩⟩⟩⟩⟩,fmc ⟨by kernel_rfl,fmc ⟨by kernel_rfl,(fun _ h=>by cases h)⟩⟩,mixed⟩
noncomputable def z_bc (W0:World) (S:Nat->Prop) (bs:List Nat:=[]):Cx:=⟨Tryz.prog,W0,S,4,[(5,ti5),(22,ti22),(31,ti31),(75,ti75)],[113],bs,none,[]⟩
abbrev z_cK:FuncId:=77
theorem z_cJ:Tryz.prog.funcs[z_cK]?=some Tryz.f77:=Tryz.func77
theorem z_b6 (W0:World) (S:Nat->Prop) (bs:List Nat:=[]):Good (z_bc W0 S bs):=⟨fmc ⟨ok5,fmc ⟨ok22,fmc ⟨ok31,fmc ⟨ok75,(fun _ h=>by cases h)⟩⟩⟩⟩,fmc ⟨by kernel_rfl,(fun _ h=>by cases h)⟩,mixed⟩
noncomputable def z_c9 (W0:World) (S:Nat->Prop) (bs:List Nat:=[]):Cx:=⟨Tryz.prog,W0,S,21,[(3,ti3),(4,ti4),(5,ti5),(31,ti31),(39,ti39),(40,ti40),(42,ti42),(150,ti150),(192,ti192)],[22,114,115],bs,none,[]⟩
abbrev z_dS:FuncId:=78
theorem z_me:Tryz.prog.funcs[z_dS]?=some Tryz.f78:=Tryz.func78
theorem z_jA (W0:World) (S:Nat->Prop) (bs:List Nat:=[]):Good (z_c9 W0 S bs):=⟨fmc ⟨ok3,fmc ⟨ok4,fmc ⟨ok5,fmc ⟨ok31,fmc ⟨ok39,fmc ⟨ok40,fmc ⟨ok42,fmc ⟨ok150,fmc ⟨ok192,(fun _ h=>by cases h)⟩⟩⟩⟩⟩⟩⟩⟩⟩,fmc ⟨by kernel_rfl,fmc ⟨by kernel_rfl,fmc ⟨by kernel_rfl,(fun _ h=>by cases h)⟩⟩⟩,mixed⟩
noncomputable def z_f0 (W0:World) (S:Nat->Prop) (bs:List Nat:=[]):Cx:=⟨Tryz.prog,W0,S,17,[(9,ti9),(22,ti22)],[],bs,none,[]⟩
abbrev z_gK:FuncId:=79
theorem z_lR:Tryz.prog.funcs[z_gK]?=some Tryz.f79:=Tryz.func79
theorem z_js (W0:World) (S:Nat->Prop) (bs:List Nat:=[]):Good (z_f0 W0 S bs):=⟨fmc ⟨ok9,fmc ⟨ok22,(fun _ h=>by cases h)⟩⟩,(fun _ h=>by cases h),mixed⟩
noncomputable def z_cc (W0:World) (S:Nat->Prop) (bs:List Nat:=[]):Cx:=⟨Tryz.prog,W0,S,116,[(3,ti3),(4,ti4),(5,ti5),(9,ti9),(31,ti31)],[116],bs,none,[]⟩
abbrev z_eO:FuncId:=80
theorem z_j2:Tryz.prog.funcs[z_eO]?=some Tryz.f80:=Tryz.func80
def z_hr:Plan:= .take 0 (.take 1 (.take 4 (.take 5 (.exec 2 (.exec 3 (.take 6 (.take 7 (.done))))))))
theorem z_hG (W0:World) (S:Nat->Prop) (bs:List Nat:=[]):Good (z_cc W0 S bs):=⟨fmc ⟨ok3,fmc ⟨ok4,fmc ⟨ok5,fmc ⟨ok9,fmc ⟨ok31,(fun _ h=>by cases h)⟩⟩⟩⟩⟩,fmc ⟨by kernel_rfl,(fun _ h=>by cases h)⟩,mixed⟩
noncomputable def z_f7 (W0:World) (S:Nat->Prop) (bs:List Nat:=[]):Cx:=⟨Tryz.prog,W0,S,19,[(3,ti3),(5,ti5),(22,ti22),(31,ti31)],[],bs,none,[]⟩
abbrev z_dI:FuncId:=81
theorem z_l2:Tryz.prog.funcs[z_dI]?=some Tryz.f81:=Tryz.func81
theorem z_jg (W0:World) (S:Nat->Prop) (bs:List Nat:=[]):Good (z_f7 W0 S bs):=⟨fmc ⟨ok3,fmc ⟨ok5,fmc ⟨ok22,fmc ⟨ok31,(fun _ h=>by cases h)⟩⟩⟩⟩,(fun _ h=>by cases h),mixed⟩
noncomputable def z_fx (W0:World) (S:Nat->Prop) (bs:List Nat:=[]):Cx:=⟨Tryz.prog,W0,S,10,[(5,ti5),(9,ti9),(31,ti31)],[],bs,none,[]⟩
abbrev z_df:FuncId:=82
theorem z_lu:Tryz.prog.funcs[z_df]?=some Tryz.f82:=Tryz.func82
theorem z_iW (W0:World) (S:Nat->Prop) (bs:List Nat:=[]):Good (z_fx W0 S bs):=⟨fmc ⟨ok5,fmc ⟨ok9,fmc ⟨ok31,(fun _ h=>by cases h)⟩⟩⟩,(fun _ h=>by cases h),mixed⟩
noncomputable def z_dh (W0:World) (S:Nat->Prop) (bs:List Nat:=[]):Cx:=⟨Tryz.prog,W0,S,12,[(22,ti22),(37,ti37)],[48,56],bs,none,[]⟩
abbrev z_gU:FuncId:=83
theorem z_lX:Tryz.prog.funcs[z_gU]?=some Tryz.f83:=Tryz.func83
theorem z_jI (W0:World) (S:Nat->Prop) (bs:List Nat:=[]):Good (z_dh W0 S bs):=⟨fmc ⟨ok22,fmc ⟨ok37,(fun _ h=>by cases h)⟩⟩,fmc ⟨by kernel_rfl,fmc ⟨by kernel_rfl,(fun _ h=>by cases h)⟩⟩,mixed⟩
noncomputable def z_aC (W0:World) (S:Nat->Prop) (bs:List Nat:=[]):Cx:=⟨Tryz.prog,W0,S,14,[(22,ti22),(84,ti84)],[],bs,none,[]⟩
abbrev z_bM:FuncId:=84
theorem z_bG:Tryz.prog.funcs[z_bM]?=some Tryz.f84:=Tryz.func84
theorem z_bu (W0:World) (S:Nat->Prop) (bs:List Nat:=[]):Good (z_aC W0 S bs):=⟨fmc ⟨ok22,fmc ⟨ok84,(fun _ h=>by cases h)⟩⟩,(fun _ h=>by cases h),mixed⟩
noncomputable def z_fj (W0:World) (S:Nat->Prop) (bs:List Nat:=[]):Cx:=⟨Tryz.prog,W0,S,6,[(22,ti22)],[],bs,none,[]⟩
abbrev z_fN:FuncId:=85
theorem z_lM:Tryz.prog.funcs[z_fN]?=some Tryz.f85:=Tryz.func85
theorem z_i4 (W0:World) (S:Nat->Prop) (bs:List Nat:=[]):Good (z_fj W0 S bs):=⟨fmc ⟨ok22,(fun _ h=>by cases h)⟩,(fun _ h=>by cases h),mixed⟩
noncomputable def z_cA (W0:World) (S:Nat->Prop) (bs:List Nat:=[]):Cx:=⟨Tryz.prog,W0,S,75,[(3,ti3),(9,ti9),(22,ti22),(50,ti50),(92,ti92)],[117,118],bs,none,[]⟩
abbrev z_e9:FuncId:=86
theorem z_kU:Tryz.prog.funcs[z_e9]?=some Tryz.f86:=Tryz.func86
theorem z_iv (W0:World) (S:Nat->Prop) (bs:List Nat:=[]):Good (z_cA W0 S bs):=⟨fmc ⟨ok3,fmc ⟨ok9,fmc ⟨ok22,fmc ⟨ok50,fmc ⟨ok92,(fun _ h=>by cases h)⟩⟩⟩⟩⟩,fmc ⟨by kernel_rfl,fmc ⟨by kernel_rfl,(fun _ h=>by cases h)⟩⟩,mixed⟩
noncomputable def z_eM (W0:World) (S:Nat->Prop) (bs:List Nat:=[]):Cx:=⟨Tryz.prog,W0,S,24,[(3,ti3),(5,ti5),(22,ti22),(31,ti31)],[],bs,none,[]⟩
abbrev z_cR:FuncId:=87
theorem z_kV:Tryz.prog.funcs[z_cR]?=some Tryz.f87:=Tryz.func87
theorem z_ie (W0:World) (S:Nat->Prop) (bs:List Nat:=[]):Good (z_eM W0 S bs):=⟨fmc ⟨ok3,fmc ⟨ok5,fmc ⟨ok22,fmc ⟨ok31,(fun _ h=>by cases h)⟩⟩⟩⟩,(fun _ h=>by cases h),mixed⟩
noncomputable def z_d8 (W0:World) (S:Nat->Prop) (bs:List Nat:=[]):Cx:=⟨Tryz.prog,W0,S,36,[(3,ti3),(5,ti5)],[],bs,none,[]⟩
abbrev z_eB:FuncId:=88
theorem z_j1:Tryz.prog.funcs[z_eB]?=some Tryz.f88:=Tryz.func88
theorem z_ho (W0:World) (S:Nat->Prop) (bs:List Nat:=[]):Good (z_d8 W0 S bs):=⟨fmc ⟨ok3,fmc ⟨ok5,(fun _ h=>by cases h)⟩⟩,(fun _ h=>by cases h),mixed⟩
noncomputable def z_aP (W0:World) (S:Nat->Prop) (bs:List Nat:=[]):Cx:=⟨Tryz.prog,W0,S,134,[(3,ti3),(22,ti22),(57,ti57),(198,ti198)],[89,119,120,121,122,123,124,125,126,127],bs,none,[]⟩
abbrev z_bd:FuncId:=89
theorem z_bT:Tryz.prog.funcs[z_bd]?=some Tryz.f89:=Tryz.func89
def z_dE:Plan:= .take 0 (.take 1 (.take 2 (.take 3 (.take 4 (.take 5 (.take 6 (.take 7 (.take 8 (.take 9 (.take 10 (.take 11 (.exec 12 (.take 13 (.take 14 (.done)))))))))))))))
theorem z_by (W0:World) (S:Nat->Prop) (bs:List Nat:=[]):Good (z_aP W0 S bs):=⟨fmc ⟨ok3,fmc ⟨ok22,fmc ⟨ok57,fmc ⟨ok198,(fun _ h=>by cases h)⟩⟩⟩⟩,fmc ⟨by kernel_rfl,fmc ⟨by kernel_rfl,fmc ⟨by kernel_rfl,fmc ⟨by kernel_rfl,fmc ⟨by kernel_rfl,fmc ⟨by kernel_rfl,fmc ⟨by kernel_rfl,fmc ⟨by kernel_rfl,fmc ⟨by kernel_rfl,fmc ⟨by kernel_rfl,(fun _ h=>by cases h)⟩⟩⟩⟩⟩⟩⟩⟩⟩⟩,mixed⟩
abbrev z_jh:FuncId:=90
noncomputable def z_nD (W0:World) (S:Nat->Prop) (bs:List Nat:=[]):Cx:=⟨Tryz.prog,W0,S,8,[(3,ti3),(9,ti9)],[130],bs,none,[]⟩
abbrev z_lf:FuncId:=91
theorem z_sj:Tryz.prog.funcs[z_lf]?=some Tryz.f91:=Tryz.func91
theorem z_pq (W0:World) (S:Nat->Prop) (bs:List Nat:=[]):Good (z_nD W0 S bs):=⟨fmc ⟨ok3,fmc ⟨ok9,(fun _ h=>by cases h)⟩⟩,fmc ⟨by kernel_rfl,(fun _ h=>by cases h)⟩,mixed⟩
noncomputable def z_h9 (W0:World) (S:Nat->Prop) (bs:List Nat:=[]):Cx:=⟨Tryz.prog,W0,S,37,[(3,ti3),(5,ti5),(9,ti9),(31,ti31)],[],bs,none,[]⟩
abbrev z_nq:FuncId:=92
theorem z_qO:Tryz.prog.funcs[z_nq]?=some Tryz.f92:=Tryz.func92
theorem z_om (W0:World) (S:Nat->Prop) (bs:List Nat:=[]):Good (z_h9 W0 S bs):=⟨fmc ⟨ok3,fmc ⟨ok5,fmc ⟨ok9,fmc ⟨ok31,(fun _ h=>by cases h)⟩⟩⟩⟩,(fun _ h=>by cases h),mixed⟩
noncomputable def z_iz (W0:World) (S:Nat->Prop) (bs:List Nat:=[]):Cx:=⟨Tryz.prog,W0,S,12,[(22,ti22)],[],bs,none,[]⟩
abbrev z_jr:FuncId:=93
theorem z_oy:Tryz.prog.funcs[z_jr]?=some Tryz.f93:=Tryz.func93
theorem z_mR (W0:World) (S:Nat->Prop) (bs:List Nat:=[]):Good (z_iz W0 S bs):=⟨fmc ⟨ok22,(fun _ h=>by cases h)⟩,(fun _ h=>by cases h),mixed⟩
noncomputable def z_k5 (W0:World) (S:Nat->Prop) (bs:List Nat:=[]):Cx:=⟨Tryz.prog,W0,S,4,[(5,ti5),(31,ti31)],[131],bs,none,[]⟩
abbrev z_mF:FuncId:=94
theorem z_qu:Tryz.prog.funcs[z_mF]?=some Tryz.f94:=Tryz.func94
theorem z_nX (W0:World) (S:Nat->Prop) (bs:List Nat:=[]):Good (z_k5 W0 S bs):=⟨fmc ⟨ok5,fmc ⟨ok31,(fun _ h=>by cases h)⟩⟩,fmc ⟨by kernel_rfl,(fun _ h=>by cases h)⟩,mixed⟩
noncomputable def z_lS (W0:World) (S:Nat->Prop) (bs:List Nat:=[]):Cx:=⟨Tryz.prog,W0,S,45,[(3,ti3),(5,ti5),(9,ti9),(31,ti31)],[],bs,none,[]⟩
abbrev z_nx:FuncId:=95
theorem z_rm:Tryz.prog.funcs[z_nx]?=some Tryz.f95:=Tryz.func95
theorem z_o6 (W0:World) (S:Nat->Prop) (bs:List Nat:=[]):Good (z_lS W0 S bs):=⟨fmc ⟨ok3,fmc ⟨ok5,fmc ⟨ok9,fmc ⟨ok31,(fun _ h=>by cases h)⟩⟩⟩⟩,(fun _ h=>by cases h),mixed⟩
noncomputable def z_dv (W0:World) (S:Nat->Prop) (bs:List Nat:=[]):Cx:=⟨Tryz.prog,W0,S,19,[(5,ti5),(31,ti31),(168,ti168),(170,ti170)],[132],bs,none,[]⟩
abbrev z_dX:FuncId:=96
theorem z_hX:Tryz.prog.funcs[z_dX]?=some Tryz.f96:=Tryz.func96
theorem z_gv (W0:World) (S:Nat->Prop) (bs:List Nat:=[]):Good (z_dv W0 S bs):=⟨fmc ⟨ok5,fmc ⟨ok31,fmc ⟨ok168,fmc ⟨ok170,(fun _ h=>by cases h)⟩⟩⟩⟩,fmc ⟨by kernel_rfl,(fun _ h=>by cases h)⟩,mixed⟩
noncomputable def z_c2 (W0:World) (S:Nat->Prop) (bs:List Nat:=[]):Cx:=⟨Tryz.prog,W0,S,14,[(3,ti3),(5,ti5),(31,ti31),(168,ti168),(170,ti170),(213,ti213)],[],bs,none,[]⟩
abbrev z_du:FuncId:=99
theorem z_hO:Tryz.prog.funcs[z_du]?=some Tryz.f99:=Tryz.func99
def z_gt:Plan:= .take 0 (.take 1 (.take 2 (.take 3 (.take 5 (.take 6 (.take 7 (.take 8 (.take 9 (.exec 4 (.exec 10 (.take 11 (.done))))))))))))
theorem z_ge (W0:World) (S:Nat->Prop) (bs:List Nat:=[]):Good (z_c2 W0 S bs):=⟨fmc ⟨ok3,fmc ⟨ok5,fmc ⟨ok31,fmc ⟨ok168,fmc ⟨ok170,fmc ⟨ok213,(fun _ h=>by cases h)⟩⟩⟩⟩⟩⟩,(fun _ h=>by cases h),mixed⟩
noncomputable def z_l1 (W0:World) (S:Nat->Prop) (bs:List Nat:=[]):Cx:=⟨Tryz.prog,W0,S,76,[(3,ti3),(5,ti5),(9,ti9),(26,ti26),(31,ti31)],[138,139],bs,none,[]⟩
abbrev z_nK:FuncId:=101
theorem z_q5:Tryz.prog.funcs[z_nK]?=some Tryz.f101:=Tryz.func101
def z_f9:Plan:= .take 0 (.take 1 (.take 2 (.take 3 (.take 4 (.take 5 (.take 6 (.exec 7 (.exec 8 (.brk 9 (.done))))))))))
def z_kn:Plan:= .take 0 (.take 1 (.take 2 (.done)))
theorem z_oN (W0:World) (S:Nat->Prop) (bs:List Nat:=[]):Good (z_l1 W0 S bs):=⟨fmc ⟨ok3,fmc ⟨ok5,fmc ⟨ok9,fmc ⟨ok26,fmc ⟨ok31,(fun _ h=>by cases h)⟩⟩⟩⟩⟩,fmc ⟨by kernel_rfl,fmc ⟨by kernel_rfl,(fun _ h=>by cases h)⟩⟩,mixed⟩
noncomputable def z_cw (W0:World) (S:Nat->Prop) (bs:List Nat:=[]):Cx:=⟨Tryz.prog,W0,S,38,[(3,ti3),(4,ti4),(5,ti5),(31,ti31),(144,ti144)],[],bs,none,[]⟩
abbrev z_fy:FuncId:=102
theorem z_kM:Tryz.prog.funcs[z_fy]?=some Tryz.f102:=Tryz.func102
theorem z_h1 (W0:World) (S:Nat->Prop) (bs:List Nat:=[]):Good (z_cw W0 S bs):=⟨fmc ⟨ok3,fmc ⟨ok4,fmc ⟨ok5,fmc ⟨ok31,fmc ⟨ok144,(fun _ h=>by cases h)⟩⟩⟩⟩⟩,(fun _ h=>by cases h),mixed⟩
noncomputable def z_hI (W0:World) (S:Nat->Prop) (bs:List Nat:=[]):Cx:=⟨Tryz.prog,W0,S,54,[(3,ti3),(5,ti5),(9,ti9),(31,ti31),(137,ti137),(150,ti150),(152,ti152)],[73,140],bs,none,[]⟩
abbrev z_iD:FuncId:=103
theorem z_n0:Tryz.prog.funcs[z_iD]?=some Tryz.f103:=Tryz.func103
theorem z_li (W0:World) (S:Nat->Prop) (bs:List Nat:=[]):Good (z_hI W0 S bs):=⟨fmc ⟨ok3,fmc ⟨ok5,fmc ⟨ok9,fmc ⟨ok31,fmc ⟨ok137,fmc ⟨ok150,fmc ⟨ok152,(fun _ h=>by cases h)⟩⟩⟩⟩⟩⟩⟩,fmc ⟨by kernel_rfl,fmc ⟨by kernel_rfl,(fun _ h=>by cases h)⟩⟩,mixed⟩
noncomputable def z_l6 (W0:World) (S:Nat->Prop) (bs:List Nat:=[]):Cx:=⟨Tryz.prog,W0,S,17,[(3,ti3),(5,ti5),(31,ti31)],[141],bs,none,[]⟩
abbrev z_nG:FuncId:=104
theorem z_qT:Tryz.prog.funcs[z_nG]?=some Tryz.f104:=Tryz.func104
theorem z_pc (W0:World) (S:Nat->Prop) (bs:List Nat:=[]):Good (z_l6 W0 S bs):=⟨fmc ⟨ok3,fmc ⟨ok5,fmc ⟨ok31,(fun _ h=>by cases h)⟩⟩⟩,fmc ⟨by kernel_rfl,(fun _ h=>by cases h)⟩,mixed⟩
noncomputable def z_ir (W0:World) (S:Nat->Prop) (bs:List Nat:=[]):Cx:=⟨Tryz.prog,W0,S,20,[(3,ti3),(5,ti5),(31,ti31),(150,ti150),(152,ti152)],[20,142],bs,none,[]⟩
abbrev z_ns:FuncId:=105
theorem z_re:Tryz.prog.funcs[z_ns]?=some Tryz.f105:=Tryz.func105
def z_pw:Plan:= .take 0 (.take 1 (.take 3 (.take 4 (.take 6 (.take 7 (.take 9 (.take 10 (.exec 2 (.take 12 (.exec 5 (.exec 8 (.exec 11 (.brk 13 (.brk 14 (.brk 15 (.brk 16 (.brk 17 (.brk 18 (.brk 19 (.done))))))))))))))))))))
theorem z_o5 (W0:World) (S:Nat->Prop) (bs:List Nat:=[]):Good (z_ir W0 S bs):=⟨fmc ⟨ok3,fmc ⟨ok5,fmc ⟨ok31,fmc ⟨ok150,fmc ⟨ok152,(fun _ h=>by cases h)⟩⟩⟩⟩⟩,fmc ⟨by kernel_rfl,fmc ⟨by kernel_rfl,(fun _ h=>by cases h)⟩⟩,mixed⟩
noncomputable def z_eh (W0:World) (S:Nat->Prop) (bs:List Nat:=[]):Cx:=⟨Tryz.prog,W0,S,13,[(5,ti5),(31,ti31),(137,ti137),(205,ti205),(221,ti221),(222,ti222)],[73,143,144,145],bs,none,[]⟩
abbrev z_op:FuncId:=107
theorem z_rr:Tryz.prog.funcs[z_op]?=some Tryz.f107:=Tryz.func107
theorem z_nN (W0:World) (S:Nat->Prop) (bs:List Nat:=[]):Good (z_eh W0 S bs):=⟨fmc ⟨ok5,fmc ⟨ok31,fmc ⟨ok137,fmc ⟨ok205,fmc ⟨ok221,fmc ⟨ok222,(fun _ h=>by cases h)⟩⟩⟩⟩⟩⟩,fmc ⟨by kernel_rfl,fmc ⟨by kernel_rfl,fmc ⟨by kernel_rfl,fmc ⟨by kernel_rfl,(fun _ h=>by cases h)⟩⟩⟩⟩,mixed⟩
noncomputable def z_iw (W0:World) (S:Nat->Prop) (bs:List Nat:=[]):Cx:=⟨Tryz.prog,W0,S,33,[(3,ti3),(5,ti5),(31,ti31),(137,ti137)],[107,146],bs,none,[]⟩
abbrev z_pM:FuncId:=108
theorem z_uh:Tryz.prog.funcs[z_pM]?=some Tryz.f108:=Tryz.func108
theorem z_p7 (W0:World) (S:Nat->Prop) (bs:List Nat:=[]):Good (z_iw W0 S bs):=⟨fmc ⟨ok3,fmc ⟨ok5,fmc ⟨ok31,fmc ⟨ok137,(fun _ h=>by cases h)⟩⟩⟩⟩,fmc ⟨by kernel_rfl,fmc ⟨by kernel_rfl,(fun _ h=>by cases h)⟩⟩,mixed⟩
abbrev z_hP:FuncId:=109
noncomputable def z_aH (W0:World) (S:Nat->Prop) (bs:List Nat:=[]):Cx:=⟨Tryz.prog,W0,S,14,[(5,ti5),(22,ti22),(31,ti31),(75,ti75)],[],bs,none,[]⟩
abbrev z_cg:FuncId:=113
theorem z_cj:Tryz.prog.funcs[z_cg]?=some Tryz.f113:=Tryz.func113
theorem z_bN (W0:World) (S:Nat->Prop) (bs:List Nat:=[]):Good (z_aH W0 S bs):=⟨fmc ⟨ok5,fmc ⟨ok22,fmc ⟨ok31,fmc ⟨ok75,(fun _ h=>by cases h)⟩⟩⟩⟩,(fun _ h=>by cases h),mixed⟩
noncomputable def z_bY (W0:World) (S:Nat->Prop) (bs:List Nat:=[]):Cx:=⟨Tryz.prog,W0,S,52,[(3,ti3),(4,ti4),(5,ti5),(31,ti31),(40,ti40),(42,ti42),(150,ti150),(192,ti192)],[151,152],bs,none,[]⟩
abbrev z_gZ:FuncId:=114
theorem z_my:Tryz.prog.funcs[z_gZ]?=some Tryz.f114:=Tryz.func114
def z_j3:Plan:= .take 0 (.take 2 (.take 3 (.take 4 (.take 5 (.take 7 (.alt 1 (.alt 6 (.exec 8 (.exec 9 (.exec 10 (.take 11 (.brk 12 (.done)))))) (.exec 8 (.exec 6 (.exec 9 (.exec 10 (.take 11 (.brk 12 (.done)))))))) (.exec 8 (.exec 1 (.exec 6 (.exec 9 (.exec 10 (.take 11 (.brk 12 (.done))))))))))))))
theorem z_j5 (W0:World) (S:Nat->Prop) (bs:List Nat:=[]):Good (z_bY W0 S bs):=⟨fmc ⟨ok3,fmc ⟨ok4,fmc ⟨ok5,fmc ⟨ok31,fmc ⟨ok40,fmc ⟨ok42,fmc ⟨ok150,fmc ⟨ok192,(fun _ h=>by cases h)⟩⟩⟩⟩⟩⟩⟩⟩,fmc ⟨by kernel_rfl,fmc ⟨by kernel_rfl,(fun _ h=>by cases h)⟩⟩,mixed⟩
noncomputable def z_fQ (W0:World) (S:Nat->Prop) (bs:List Nat:=[]):Cx:=⟨Tryz.prog,W0,S,14,[(5,ti5),(31,ti31)],[153,154],bs,none,[]⟩
abbrev z_g1:FuncId:=115
theorem z_ml:Tryz.prog.funcs[z_g1]?=some Tryz.f115:=Tryz.func115
theorem z_jL (W0:World) (S:Nat->Prop) (bs:List Nat:=[]):Good (z_fQ W0 S bs):=⟨fmc ⟨ok5,fmc ⟨ok31,(fun _ h=>by cases h)⟩⟩,fmc ⟨by kernel_rfl,fmc ⟨by kernel_rfl,(fun _ h=>by cases h)⟩⟩,mixed⟩
noncomputable def z_ed (W0:World) (S:Nat->Prop) (bs:List Nat:=[]):Cx:=⟨Tryz.prog,W0,S,16,[(3,ti3),(4,ti4),(5,ti5)],[88],bs,none,[]⟩
abbrev z_eG:FuncId:=116
theorem z_j4:Tryz.prog.funcs[z_eG]?=some Tryz.f116:=Tryz.func116
theorem z_hu (W0:World) (S:Nat->Prop) (bs:List Nat:=[]):Good (z_ed W0 S bs):=⟨fmc ⟨ok3,fmc ⟨ok4,fmc ⟨ok5,(fun _ h=>by cases h)⟩⟩⟩,fmc ⟨by kernel_rfl,(fun _ h=>by cases h)⟩,mixed⟩
noncomputable def z_cv (W0:World) (S:Nat->Prop) (bs:List Nat:=[]):Cx:=⟨Tryz.prog,W0,S,24,[(3,ti3),(9,ti9)],[155],bs,none,[]⟩
abbrev z_fz:FuncId:=117
theorem z_kI:Tryz.prog.funcs[z_fz]?=some Tryz.f117:=Tryz.func117
theorem z_h2 (W0:World) (S:Nat->Prop) (bs:List Nat:=[]):Good (z_cv W0 S bs):=⟨fmc ⟨ok3,fmc ⟨ok9,(fun _ h=>by cases h)⟩⟩,fmc ⟨by kernel_rfl,(fun _ h=>by cases h)⟩,mixed⟩
noncomputable def z_cs (W0:World) (S:Nat->Prop) (bs:List Nat:=[]):Cx:=⟨Tryz.prog,W0,S,45,[(3,ti3),(5,ti5),(9,ti9)],[],bs,none,[]⟩
abbrev z_fe:FuncId:=118
theorem z_kR:Tryz.prog.funcs[z_fe]?=some Tryz.f118:=Tryz.func118
theorem z_im (W0:World) (S:Nat->Prop) (bs:List Nat:=[]):Good (z_cs W0 S bs):=⟨fmc ⟨ok3,fmc ⟨ok5,fmc ⟨ok9,(fun _ h=>by cases h)⟩⟩⟩,(fun _ h=>by cases h),mixed⟩
noncomputable def z_ap (W0:World) (S:Nat->Prop) (bs:List Nat:=[]):Cx:=⟨Tryz.prog,W0,S,49,[(3,ti3),(22,ti22),(57,ti57)],[125],bs,none,[]⟩
abbrev z_aW:FuncId:=119
theorem z_aV:Tryz.prog.funcs[z_aW]?=some Tryz.f119:=Tryz.func119
def z_be:Plan:= .take 0 (.take 1 (.take 2 (.take 3 (.take 4 (.take 5 (.take 6 (.take 7 (.take 8 (.take 9 (.take 10 (.take 11 (.take 12 (.exec 13 (.take 14 (.done)))))))))))))))
def z_bf:Plan:= .take 0 (.take 1 (.take 2 (.take 3 (.take 4 (.take 5 (.take 6 (.take 7 (.take 8 (.take 10 (.take 11 (.take 12 (.alt 9 (.exec 13 (.take 14 (.exec 15 (.take 16 (.exec 17 (.done)))))) (.exec 13 (.exec 9 (.take 14 (.exec 15 (.take 16 (.exec 17 (.done)))))))))))))))))))
theorem z_aO (W0:World) (S:Nat->Prop) (bs:List Nat:=[]):Good (z_ap W0 S bs):=⟨fmc ⟨ok3,fmc ⟨ok22,fmc ⟨ok57,(fun _ h=>by cases h)⟩⟩⟩,fmc ⟨by kernel_rfl,(fun _ h=>by cases h)⟩,mixed⟩
noncomputable def z_a8 (W0:World) (S:Nat->Prop) (bs:List Nat:=[]):Cx:=⟨Tryz.prog,W0,S,56,[(3,ti3),(22,ti22),(57,ti57)],[156],bs,none,[]⟩
abbrev z_bJ:FuncId:=120
theorem z_ek:Tryz.prog.funcs[z_bJ]?=some Tryz.f120:=Tryz.func120
def z_dD:Plan:= .take 0 (.take 1 (.take 2 (.take 3 (.take 4 (.take 5 (.take 6 (.take 7 (.take 8 (.take 9 (.take 10 (.take 12 (.take 13 (.take 14 (.alt 11 (.exec 15 (.take 16 (.exec 17 (.take 18 (.exec 19 (.done)))))) (.exec 15 (.exec 11 (.take 16 (.exec 17 (.take 18 (.exec 19 (.done)))))))))))))))))))))
theorem z_dw (W0:World) (S:Nat->Prop) (bs:List Nat:=[]):Good (z_a8 W0 S bs):=⟨fmc ⟨ok3,fmc ⟨ok22,fmc ⟨ok57,(fun _ h=>by cases h)⟩⟩⟩,fmc ⟨by kernel_rfl,(fun _ h=>by cases h)⟩,mixed⟩
noncomputable def z_aR (W0:World) (S:Nat->Prop) (bs:List Nat:=[]):Cx:=⟨Tryz.prog,W0,S,65,[(3,ti3),(22,ti22),(57,ti57),(163,ti163),(232,ti232)],[157,158],bs,none,[]⟩
abbrev z_bl:FuncId:=121
theorem z_c1:Tryz.prog.funcs[z_bl]?=some Tryz.f121:=Tryz.func121
def z_cB:Plan:= .take 0 (.take 1 (.take 2 (.take 3 (.take 4 (.take 5 (.take 6 (.take 7 (.take 8 (.take 9 (.take 10 (.take 12 (.take 13 (.take 14 (.alt 11 (.exec 15 (.take 16 (.exec 17 (.take 18 (.exec 19 (.done)))))) (.exec 15 (.exec 11 (.take 16 (.exec 17 (.take 18 (.exec 19 (.done)))))))))))))))))))))
theorem z_cu (W0:World) (S:Nat->Prop) (bs:List Nat:=[]):Good (z_aR W0 S bs):=⟨fmc ⟨ok3,fmc ⟨ok22,fmc ⟨ok57,fmc ⟨ok163,fmc ⟨ok232,(fun _ h=>by cases h)⟩⟩⟩⟩⟩,fmc ⟨by kernel_rfl,fmc ⟨by kernel_rfl,(fun _ h=>by cases h)⟩⟩,mixed⟩
noncomputable def z_bn (W0:World) (S:Nat->Prop) (bs:List Nat:=[]):Cx:=⟨Tryz.prog,W0,S,57,[(3,ti3),(22,ti22),(57,ti57),(235,ti235)],[159,160],bs,none,[]⟩
abbrev z_bt:FuncId:=122
theorem z_dC:Tryz.prog.funcs[z_bt]?=some Tryz.f122:=Tryz.func122
theorem z_cZ (W0:World) (S:Nat->Prop) (bs:List Nat:=[]):Good (z_bn W0 S bs):=⟨fmc ⟨ok3,fmc ⟨ok22,fmc ⟨ok57,fmc ⟨ok235,(fun _ h=>by cases h)⟩⟩⟩⟩,fmc ⟨by kernel_rfl,fmc ⟨by kernel_rfl,(fun _ h=>by cases h)⟩⟩,mixed⟩
noncomputable def z_aU (W0:World) (S:Nat->Prop) (bs:List Nat:=[]):Cx:=⟨Tryz.prog,W0,S,32,[(3,ti3),(22,ti22),(57,ti57)],[],bs,none,[]⟩
abbrev z_bo:FuncId:=123
theorem z_da:Tryz.prog.funcs[z_bo]?=some Tryz.f123:=Tryz.func123
def z_cX:Plan:= .take 0 (.take 1 (.take 2 (.take 3 (.take 4 (.take 5 (.take 6 (.take 8 (.take 9 (.take 10 (.alt 7 (.exec 11 (.take 12 (.exec 13 (.take 14 (.exec 15 (.done)))))) (.exec 11 (.exec 7 (.take 12 (.exec 13 (.take 14 (.exec 15 (.done)))))))))))))))))
theorem z_cO (W0:World) (S:Nat->Prop) (bs:List Nat:=[]):Good (z_aU W0 S bs):=⟨fmc ⟨ok3,fmc ⟨ok22,fmc ⟨ok57,(fun _ h=>by cases h)⟩⟩⟩,(fun _ h=>by cases h),mixed⟩
noncomputable def z_a2 (W0:World) (S:Nat->Prop) (bs:List Nat:=[]):Cx:=⟨Tryz.prog,W0,S,133,[(3,ti3),(22,ti22),(57,ti57)],[125],bs,none,[]⟩
abbrev z_a5:FuncId:=124
theorem z_b2:Tryz.prog.funcs[z_a5]?=some Tryz.f124:=Tryz.func124
def z_bH:Plan:= .take 0 (.take 1 (.take 2 (.take 3 (.take 4 (.take 5 (.take 6 (.take 7 (.take 8 (.take 9 (.take 10 (.take 11 (.take 12 (.exec 13 (.take 14 (.take 15 (.done))))))))))))))))
theorem z_bC (W0:World) (S:Nat->Prop) (bs:List Nat:=[]):Good (z_a2 W0 S bs):=⟨fmc ⟨ok3,fmc ⟨ok22,fmc ⟨ok57,(fun _ h=>by cases h)⟩⟩⟩,fmc ⟨by kernel_rfl,(fun _ h=>by cases h)⟩,mixed⟩
noncomputable def z_gY (W0:World) (S:Nat->Prop) (bs:List Nat:=[]):Cx:=⟨Tryz.prog,W0,S,17,[(22,ti22)],[161],bs,none,[]⟩
abbrev z_hz:FuncId:=125
theorem z_ng:Tryz.prog.funcs[z_hz]?=some Tryz.f125:=Tryz.func125
theorem z_kY (W0:World) (S:Nat->Prop) (bs:List Nat:=[]):Good (z_gY W0 S bs):=⟨fmc ⟨ok22,(fun _ h=>by cases h)⟩,fmc ⟨by kernel_rfl,(fun _ h=>by cases h)⟩,mixed⟩
noncomputable def z_aB (W0:World) (S:Nat->Prop) (bs:List Nat:=[]):Cx:=⟨Tryz.prog,W0,S,84,[(3,ti3),(22,ti22),(57,ti57)],[125],bs,none,[]⟩
abbrev z_bi:FuncId:=126
theorem z_cW:Tryz.prog.funcs[z_bi]?=some Tryz.f126:=Tryz.func126
def z_cD:Plan:= .take 0 (.take 1 (.take 2 (.take 3 (.take 4 (.take 5 (.take 6 (.take 8 (.take 9 (.take 10 (.alt 7 (.exec 11 (.take 12 (.exec 13 (.take 14 (.exec 15 (.done)))))) (.exec 11 (.exec 7 (.take 12 (.exec 13 (.take 14 (.exec 15 (.done)))))))))))))))))
def z_cy:Plan:= .take 0 (.take 1 (.take 2 (.take 3 (.take 4 (.take 5 (.take 6 (.take 7 (.take 8 (.take 9 (.take 10 (.take 11 (.exec 12 (.take 13 (.take 14 (.done)))))))))))))))
def z_cz:Plan:= .take 0 (.take 1 (.take 2 (.take 3 (.take 4 (.take 5 (.take 6 (.take 7 (.take 8 (.take 9 (.take 10 (.take 11 (.exec 12 (.take 13 (.done))))))))))))))
def z_cr:Plan:= .take 0 (.take 1 (.take 2 (.take 3 (.take 4 (.take 5 (.take 6 (.take 8 (.take 9 (.take 10 (.alt 7 (.exec 11 (.take 12 (.exec 13 (.take 14 (.exec 15 (.done)))))) (.exec 11 (.exec 7 (.take 12 (.exec 13 (.take 14 (.exec 15 (.done)))))))))))))))))
theorem z_cp (W0:World) (S:Nat->Prop) (bs:List Nat:=[]):Good (z_aB W0 S bs):=⟨fmc ⟨ok3,fmc ⟨ok22,fmc ⟨ok57,(fun _ h=>by cases h)⟩⟩⟩,fmc ⟨by kernel_rfl,(fun _ h=>by cases h)⟩,mixed⟩
noncomputable def z_au (W0:World) (S:Nat->Prop) (bs:List Nat:=[]):Cx:=⟨Tryz.prog,W0,S,168,[(3,ti3),(22,ti22),(57,ti57)],[125],bs,none,[]⟩
abbrev z_bA:FuncId:=127
theorem z_d0:Tryz.prog.funcs[z_bA]?=some Tryz.f127:=Tryz.func127
def z_dz:Plan:= .take 0 (.take 1 (.take 2 (.take 3 (.take 4 (.take 5 (.take 6 (.take 8 (.take 9 (.take 10 (.alt 7 (.exec 11 (.take 12 (.exec 13 (.take 14 (.exec 15 (.done)))))) (.exec 11 (.exec 7 (.take 12 (.exec 13 (.take 14 (.exec 15 (.done)))))))))))))))))
def z_dB:Plan:= .take 0 (.take 1 (.take 2 (.take 3 (.take 4 (.take 5 (.take 6 (.take 7 (.take 8 (.take 9 (.take 10 (.take 11 (.exec 12 (.take 13 (.done))))))))))))))
def z_dy:Plan:= .take 0 (.take 1 (.take 2 (.take 3 (.take 4 (.take 5 (.take 6 (.take 7 (.take 8 (.take 9 (.take 10 (.take 11 (.exec 12 (.take 13 (.take 14 (.done)))))))))))))))
def z_dA:Plan:= .take 0 (.take 1 (.take 2 (.take 3 (.take 4 (.take 5 (.take 6 (.take 8 (.take 9 (.take 10 (.alt 7 (.exec 11 (.take 12 (.exec 13 (.take 14 (.exec 15 (.done)))))) (.exec 11 (.exec 7 (.take 12 (.exec 13 (.take 14 (.exec 15 (.done)))))))))))))))))
def z_dm:Plan:= .take 0 (.take 1 (.take 2 (.take 3 (.take 4 (.take 5 (.take 6 (.take 8 (.take 9 (.take 10 (.alt 7 (.exec 11 (.take 12 (.exec 13 (.take 14 (.exec 15 (.done)))))) (.exec 11 (.exec 7 (.take 12 (.exec 13 (.take 14 (.exec 15 (.done)))))))))))))))))
def z_do:Plan:= .take 0 (.take 1 (.take 2 (.take 3 (.take 4 (.take 5 (.take 6 (.take 7 (.take 8 (.take 9 (.take 10 (.take 11 (.exec 12 (.take 13 (.done))))))))))))))
def z_db:Plan:= .take 0 (.take 1 (.take 2 (.take 3 (.take 4 (.take 5 (.take 6 (.take 7 (.take 8 (.take 9 (.take 10 (.take 11 (.exec 12 (.take 13 (.take 14 (.done)))))))))))))))
def z_dp:Plan:= .take 0 (.take 1 (.take 2 (.take 3 (.take 4 (.take 5 (.take 6 (.take 8 (.take 9 (.take 10 (.alt 7 (.exec 11 (.take 12 (.exec 13 (.take 14 (.exec 15 (.done)))))) (.exec 11 (.exec 7 (.take 12 (.exec 13 (.take 14 (.exec 15 (.done)))))))))))))))))
def z_dk:Plan:= .take 0 (.take 1 (.take 2 (.take 3 (.take 4 (.take 5 (.take 6 (.take 8 (.take 9 (.take 10 (.alt 7 (.exec 11 (.take 12 (.exec 13 (.take 14 (.exec 15 (.done)))))) (.exec 11 (.exec 7 (.take 12 (.exec 13 (.take 14 (.exec 15 (.done)))))))))))))))))
theorem z_dc (W0:World) (S:Nat->Prop) (bs:List Nat:=[]):Good (z_au W0 S bs):=⟨fmc ⟨ok3,fmc ⟨ok22,fmc ⟨ok57,(fun _ h=>by cases h)⟩⟩⟩,fmc ⟨by kernel_rfl,(fun _ h=>by cases h)⟩,mixed⟩
noncomputable def z_ik (W0:World) (S:Nat->Prop) (bs:List Nat:=[]):Cx:=⟨Tryz.prog,W0,S,26,[(3,ti3),(9,ti9),(26,ti26)],[162],bs,none,[]⟩
abbrev z_nC:FuncId:=130
theorem z_rH:Tryz.prog.funcs[z_nC]?=some Tryz.f130:=Tryz.func130
theorem z_oD (W0:World) (S:Nat->Prop) (bs:List Nat:=[]):Good (z_ik W0 S bs):=⟨fmc ⟨ok3,fmc ⟨ok9,fmc ⟨ok26,(fun _ h=>by cases h)⟩⟩⟩,fmc ⟨by kernel_rfl,(fun _ h=>by cases h)⟩,mixed⟩
noncomputable def z_e3 (W0:World) (S:Nat->Prop) (bs:List Nat:=[]):Cx:=⟨Tryz.prog,W0,S,20,[(3,ti3),(5,ti5),(31,ti31)],[],bs,none,[]⟩
abbrev z_gl:FuncId:=131
theorem z_ov:Tryz.prog.funcs[z_gl]?=some Tryz.f131:=Tryz.func131
theorem z_mz (W0:World) (S:Nat->Prop) (bs:List Nat:=[]):Good (z_e3 W0 S bs):=⟨fmc ⟨ok3,fmc ⟨ok5,fmc ⟨ok31,(fun _ h=>by cases h)⟩⟩⟩,(fun _ h=>by cases h),mixed⟩
abbrev z_fU:FuncId:=132
abbrev z_oj:FuncId:=133
noncomputable def z_md (W0:World) (S:Nat->Prop) (bs:List Nat:=[]):Cx:=⟨Tryz.prog,W0,S,6,[(3,ti3),(9,ti9)],[172],bs,none,[]⟩
abbrev z_nO:FuncId:=138
theorem z_rJ:Tryz.prog.funcs[z_nO]?=some Tryz.f138:=Tryz.func138
theorem z_oU (W0:World) (S:Nat->Prop) (bs:List Nat:=[]):Good (z_md W0 S bs):=⟨fmc ⟨ok3,fmc ⟨ok9,(fun _ h=>by cases h)⟩⟩,fmc ⟨by kernel_rfl,(fun _ h=>by cases h)⟩,mixed⟩
noncomputable def z_nM (W0:World) (S:Nat->Prop) (bs:List Nat:=[]):Cx:=⟨Tryz.prog,W0,S,47,[(3,ti3),(5,ti5),(9,ti9)],[],bs,none,[]⟩
abbrev z_oE:FuncId:=139
theorem z_sz:Tryz.prog.funcs[z_oE]?=some Tryz.f139:=Tryz.func139
theorem z_pt (W0:World) (S:Nat->Prop) (bs:List Nat:=[]):Good (z_nM W0 S bs):=⟨fmc ⟨ok3,fmc ⟨ok5,fmc ⟨ok9,(fun _ h=>by cases h)⟩⟩⟩,(fun _ h=>by cases h),mixed⟩
noncomputable def z_gg (W0:World) (S:Nat->Prop) (bs:List Nat:=[]):Cx:=⟨Tryz.prog,W0,S,18,[(3,ti3),(5,ti5),(31,ti31)],[],bs,none,[]⟩
abbrev z_co:FuncId:=140
theorem z_mC:Tryz.prog.funcs[z_co]?=some Tryz.f140:=Tryz.func140
theorem z_j6 (W0:World) (S:Nat->Prop) (bs:List Nat:=[]):Good (z_gg W0 S bs):=⟨fmc ⟨ok3,fmc ⟨ok5,fmc ⟨ok31,(fun _ h=>by cases h)⟩⟩⟩,(fun _ h=>by cases h),mixed⟩
noncomputable def z_oA (W0:World) (S:Nat->Prop) (bs:List Nat:=[]):Cx:=⟨Tryz.prog,W0,S,7,[(5,ti5),(31,ti31)],[],bs,none,[]⟩
abbrev z_pV:FuncId:=141
theorem z_tG:Tryz.prog.funcs[z_pV]?=some Tryz.f141:=Tryz.func141
theorem z_qo (W0:World) (S:Nat->Prop) (bs:List Nat:=[]):Good (z_oA W0 S bs):=⟨fmc ⟨ok5,fmc ⟨ok31,(fun _ h=>by cases h)⟩⟩,(fun _ h=>by cases h),mixed⟩
noncomputable def z_dQ (W0:World) (S:Nat->Prop) (bs:List Nat:=[]):Cx:=⟨Tryz.prog,W0,S,8,[(3,ti3),(150,ti150)],[],bs,none,[]⟩
abbrev z_iN:FuncId:=142
theorem z_iP:Tryz.prog.funcs[z_iN]?=some Tryz.f142:=Tryz.func142
theorem z_hk (W0:World) (S:Nat->Prop) (bs:List Nat:=[]):Good (z_dQ W0 S bs):=⟨fmc ⟨ok3,fmc ⟨ok150,(fun _ h=>by cases h)⟩⟩,(fun _ h=>by cases h),mixed⟩
noncomputable def z_ma (W0:World) (S:Nat->Prop) (bs:List Nat:=[]):Cx:=⟨Tryz.prog,W0,S,4,[(5,ti5),(31,ti31)],[173],bs,none,[]⟩
abbrev z_nF:FuncId:=143
theorem z_rK:Tryz.prog.funcs[z_nF]?=some Tryz.f143:=Tryz.func143
theorem z_of (W0:World) (S:Nat->Prop) (bs:List Nat:=[]):Good (z_ma W0 S bs):=⟨fmc ⟨ok5,fmc ⟨ok31,(fun _ h=>by cases h)⟩⟩,fmc ⟨by kernel_rfl,(fun _ h=>by cases h)⟩,mixed⟩
noncomputable def z_cM (W0:World) (S:Nat->Prop) (bs:List Nat:=[]):Cx:=⟨Tryz.prog,W0,S,144,[(3,ti3),(5,ti5),(31,ti31),(205,ti205),(221,ti221),(222,ti222),(245,ti245)],[175,176],bs,none,[]⟩
abbrev z_e2:FuncId:=144
theorem z_nP:Tryz.prog.funcs[z_e2]?=some Tryz.f144:=Tryz.func144
def z_l4:Plan:= .take 0 (.take 1 (.take 2 (.take 3 (.take 4 (.take 5 (.take 6 (.take 7 (.take 8 (.take 9 (.take 10 (.take 11 (.take 12 (.take 13 (.take 14 (.take 15 (.take 16 (.take 17 (.take 18 (.take 19 (.take 20 (.take 21 (.take 22 (.take 23 (.take 24 (.take 25 (.take 26 (.take 27 (.take 28 (.take 29 (.take 30 (.take 31 (.take 32 (.take 33 (.take 34 (.take 35 (.take 36 (.take 37 (.take 38 (.take 39 (.done))))))))))))))))))))))))))))))))))))))))
def z_mj:Plan:= .take 0 (.take 1 (.take 2 (.take 3 (.take 4 (.take 5 (.take 6 (.take 7 (.take 8 (.take 9 (.take 10 (.take 11 (.take 12 (.take 13 (.done))))))))))))))
def z_lg:Plan:= .take 0 (.take 1 (.take 2 (.take 3 (.take 5 (.take 7 (.exec 4 (.take 6 (.take 8 (.exec 9 (.done))))))))))
theorem z_lh (W0:World) (S:Nat->Prop) (bs:List Nat:=[]):Good (z_cM W0 S bs):=⟨fmc ⟨ok3,fmc ⟨ok5,fmc ⟨ok31,fmc ⟨ok205,fmc ⟨ok221,fmc ⟨ok222,fmc ⟨ok245,(fun _ h=>by cases h)⟩⟩⟩⟩⟩⟩⟩,fmc ⟨by kernel_rfl,fmc ⟨by kernel_rfl,(fun _ h=>by cases h)⟩⟩,mixed⟩
noncomputable def z_dH (W0:World) (S:Nat->Prop) (bs:List Nat:=[]):Cx:=⟨Tryz.prog,W0,S,28,[(3,ti3),(5,ti5),(31,ti31),(205,ti205),(222,ti222)],[],bs,none,[]⟩
abbrev z_hR:FuncId:=145
theorem z_m9:Tryz.prog.funcs[z_hR]?=some Tryz.f145:=Tryz.func145
theorem z_kW (W0:World) (S:Nat->Prop) (bs:List Nat:=[]):Good (z_dH W0 S bs):=⟨fmc ⟨ok3,fmc ⟨ok5,fmc ⟨ok31,fmc ⟨ok205,fmc ⟨ok222,(fun _ h=>by cases h)⟩⟩⟩⟩⟩,(fun _ h=>by cases h),mixed⟩
noncomputable def z_fY (W0:World) (S:Nat->Prop) (bs:List Nat:=[]):Cx:=⟨Tryz.prog,W0,S,77,[(3,ti3),(5,ti5),(9,ti9),(31,ti31),(163,ti163)],[133],bs,none,[]⟩
abbrev z_lc:FuncId:=146
theorem z_pB:Tryz.prog.funcs[z_lc]?=some Tryz.f146:=Tryz.func146
def z_ne:Plan:= .take 0 (.take 1 (.take 2 (.take 3 (.take 4 (.take 5 (.take 6 (.exec 7 (.take 8 (.take 9 (.done))))))))))
theorem z_mW (W0:World) (S:Nat->Prop) (bs:List Nat:=[]):Good (z_fY W0 S bs):=⟨fmc ⟨ok3,fmc ⟨ok5,fmc ⟨ok9,fmc ⟨ok31,fmc ⟨ok163,(fun _ h=>by cases h)⟩⟩⟩⟩⟩,fmc ⟨by kernel_rfl,(fun _ h=>by cases h)⟩,mixed⟩
noncomputable def z_cV (W0:World) (S:Nat->Prop) (bs:List Nat:=[]):Cx:=⟨Tryz.prog,W0,S,45,[(3,ti3),(5,ti5),(31,ti31),(150,ti150),(192,ti192)],[82,179],bs,none,[]⟩
abbrev z_gq:FuncId:=151
theorem z_lA:Tryz.prog.funcs[z_gq]?=some Tryz.f151:=Tryz.func151
theorem z_iO (W0:World) (S:Nat->Prop) (bs:List Nat:=[]):Good (z_cV W0 S bs):=⟨fmc ⟨ok3,fmc ⟨ok5,fmc ⟨ok31,fmc ⟨ok150,fmc ⟨ok192,(fun _ h=>by cases h)⟩⟩⟩⟩⟩,fmc ⟨by kernel_rfl,fmc ⟨by kernel_rfl,(fun _ h=>by cases h)⟩⟩,mixed⟩
noncomputable def z_d5 (W0:World) (S:Nat->Prop) (bs:List Nat:=[]):Cx:=⟨Tryz.prog,W0,S,9,[(3,ti3),(5,ti5),(22,ti22),(31,ti31),(205,ti205)],[87,180],bs,none,[]⟩
abbrev z_eU:FuncId:=152
theorem z_jo:Tryz.prog.funcs[z_eU]?=some Tryz.f152:=Tryz.func152
theorem z_hL (W0:World) (S:Nat->Prop) (bs:List Nat:=[]):Good (z_d5 W0 S bs):=⟨fmc ⟨ok3,fmc ⟨ok5,fmc ⟨ok22,fmc ⟨ok31,fmc ⟨ok205,(fun _ h=>by cases h)⟩⟩⟩⟩⟩,fmc ⟨by kernel_rfl,fmc ⟨by kernel_rfl,(fun _ h=>by cases h)⟩⟩,mixed⟩
noncomputable def z_bX (W0:World) (S:Nat->Prop) (bs:List Nat:=[]):Cx:=⟨Tryz.prog,W0,S,20,[(3,ti3),(5,ti5),(22,ti22),(31,ti31),(205,ti205),(249,ti249)],[181,182,183,184],bs,none,[]⟩
abbrev z_gM:FuncId:=153
theorem z_l5:Tryz.prog.funcs[z_gM]?=some Tryz.f153:=Tryz.func153
theorem z_ka (W0:World) (S:Nat->Prop) (bs:List Nat:=[]):Good (z_bX W0 S bs):=⟨fmc ⟨ok3,fmc ⟨ok5,fmc ⟨ok22,fmc ⟨ok31,fmc ⟨ok205,fmc ⟨ok249,(fun _ h=>by cases h)⟩⟩⟩⟩⟩⟩,fmc ⟨by kernel_rfl,fmc ⟨by kernel_rfl,fmc ⟨by kernel_rfl,fmc ⟨by kernel_rfl,(fun _ h=>by cases h)⟩⟩⟩⟩,mixed⟩
noncomputable def z_bs (W0:World) (S:Nat->Prop) (bs:List Nat:=[]):Cx:=⟨Tryz.prog,W0,S,30,[(3,ti3),(5,ti5),(31,ti31)],[153],bs,none,[]⟩
abbrev z_eD:FuncId:=154
theorem z_jE:Tryz.prog.funcs[z_eD]?=some Tryz.f154:=Tryz.func154
theorem z_hF (W0:World) (S:Nat->Prop) (bs:List Nat:=[]):Good (z_bs W0 S bs):=⟨fmc ⟨ok3,fmc ⟨ok5,fmc ⟨ok31,(fun _ h=>by cases h)⟩⟩⟩,fmc ⟨by kernel_rfl,(fun _ h=>by cases h)⟩,mixed⟩
noncomputable def z_bW (W0:World) (S:Nat->Prop) (bs:List Nat:=[]):Cx:=⟨Tryz.prog,W0,S,48,[(3,ti3),(5,ti5),(9,ti9),(31,ti31),(254,ti254),(257,ti257)],[185,186,187,188,189],bs,none,[]⟩
abbrev z_ec:FuncId:=155
theorem z_i0:Tryz.prog.funcs[z_ec]?=some Tryz.f155:=Tryz.func155
theorem z_g7 (W0:World) (S:Nat->Prop) (bs:List Nat:=[]):Good (z_bW W0 S bs):=⟨fmc ⟨ok3,fmc ⟨ok5,fmc ⟨ok9,fmc ⟨ok31,fmc ⟨ok254,fmc ⟨ok257,(fun _ h=>by cases h)⟩⟩⟩⟩⟩⟩,fmc ⟨by kernel_rfl,fmc ⟨by kernel_rfl,fmc ⟨by kernel_rfl,fmc ⟨by kernel_rfl,fmc ⟨by kernel_rfl,(fun _ h=>by cases h)⟩⟩⟩⟩⟩,mixed⟩
noncomputable def z_ba (W0:World) (S:Nat->Prop) (bs:List Nat:=[]):Cx:=⟨Tryz.prog,W0,S,76,[(3,ti3),(22,ti22),(57,ti57)],[125],bs,none,[]⟩
abbrev z_bL:FuncId:=156
theorem z_em:Tryz.prog.funcs[z_bL]?=some Tryz.f156:=Tryz.func156
def z_dV:Plan:= .take 0 (.take 1 (.take 2 (.take 3 (.take 4 (.take 5 (.take 6 (.take 7 (.take 8 (.take 9 (.take 10 (.take 11 (.take 12 (.take 13 (.take 14 (.take 15 (.take 16 (.take 17 (.exec 18 (.take 19 (.done))))))))))))))))))))
def z_dP:Plan:= .take 0 (.take 1 (.take 2 (.take 3 (.take 4 (.take 5 (.take 6 (.take 7 (.take 8 (.take 9 (.take 10 (.take 11 (.exec 12 (.take 13 (.done))))))))))))))
def z_dG:Plan:= .take 0 (.take 1 (.take 2 (.take 3 (.take 4 (.take 5 (.take 6 (.take 7 (.take 8 (.take 9 (.take 10 (.take 11 (.take 12 (.take 14 (.take 15 (.take 16 (.take 17 (.take 18 (.alt 13 (.exec 19 (.take 20 (.exec 21 (.take 22 (.exec 23 (.done)))))) (.exec 19 (.exec 13 (.take 20 (.exec 21 (.take 22 (.exec 23 (.done)))))))))))))))))))))))))
theorem z_dx (W0:World) (S:Nat->Prop) (bs:List Nat:=[]):Good (z_ba W0 S bs):=⟨fmc ⟨ok3,fmc ⟨ok22,fmc ⟨ok57,(fun _ h=>by cases h)⟩⟩⟩,fmc ⟨by kernel_rfl,(fun _ h=>by cases h)⟩,mixed⟩
noncomputable def z_dt (W0:World) (S:Nat->Prop) (bs:List Nat:=[]):Cx:=⟨Tryz.prog,W0,S,7,[(3,ti3),(163,ti163)],[90],bs,none,[]⟩
abbrev z_dT:FuncId:=157
theorem z_hV:Tryz.prog.funcs[z_dT]?=some Tryz.f157:=Tryz.func157
theorem z_gu (W0:World) (S:Nat->Prop) (bs:List Nat:=[]):Good (z_dt W0 S bs):=⟨fmc ⟨ok3,fmc ⟨ok163,(fun _ h=>by cases h)⟩⟩,fmc ⟨by kernel_rfl,(fun _ h=>by cases h)⟩,mixed⟩
noncomputable def z_dU (W0:World) (S:Nat->Prop) (bs:List Nat:=[]):Cx:=⟨Tryz.prog,W0,S,33,[(232,ti232)],[],bs,none,[]⟩
abbrev z_d9:FuncId:=158
theorem z_iH:Tryz.prog.funcs[z_d9]?=some Tryz.f158:=Tryz.func158
def z_hN:Plan:= .take 0 (.take 1 (.take 2 (.take 3 (.take 4 (.take 5 (.take 6 (.take 7 (.take 8 (.brk 9 (.done))))))))))
def z_hw:Plan:= .take 0 (.take 1 (.take 2 (.take 3 (.take 4 (.take 5 (.take 6 (.take 7 (.take 8 (.brk 9 (.done))))))))))
def z_hE:Plan:= .take 0 (.take 1 (.take 2 (.take 3 (.take 4 (.take 5 (.take 6 (.take 7 (.take 8 (.brk 9 (.done))))))))))
theorem z_g8 (W0:World) (S:Nat->Prop) (bs:List Nat:=[]):Good (z_dU W0 S bs):=⟨fmc ⟨ok232,(fun _ h=>by cases h)⟩,(fun _ h=>by cases h),mixed⟩
noncomputable def z_bP (W0:World) (S:Nat->Prop) (bs:List Nat:=[]):Cx:=⟨Tryz.prog,W0,S,36,[(3,ti3),(22,ti22),(57,ti57),(235,ti235)],[190],bs,none,[]⟩
abbrev z_b5:FuncId:=160
theorem z_e0:Tryz.prog.funcs[z_b5]?=some Tryz.f160:=Tryz.func160
theorem z_d1 (W0:World) (S:Nat->Prop) (bs:List Nat:=[]):Good (z_bP W0 S bs):=⟨fmc ⟨ok3,fmc ⟨ok22,fmc ⟨ok57,fmc ⟨ok235,(fun _ h=>by cases h)⟩⟩⟩⟩,fmc ⟨by kernel_rfl,(fun _ h=>by cases h)⟩,mixed⟩
noncomputable def z_gf (W0:World) (S:Nat->Prop) (bs:List Nat:=[]):Cx:=⟨Tryz.prog,W0,S,6,[(22,ti22)],[],bs,none,[]⟩
abbrev z_gV:FuncId:=161
theorem z_l3:Tryz.prog.funcs[z_gV]?=some Tryz.f161:=Tryz.func161
theorem z_kk (W0:World) (S:Nat->Prop) (bs:List Nat:=[]):Good (z_gf W0 S bs):=⟨fmc ⟨ok22,(fun _ h=>by cases h)⟩,(fun _ h=>by cases h),mixed⟩
noncomputable def z_bp (W0:World) (S:Nat->Prop) (bs:List Nat:=[]):Cx:=⟨Tryz.prog,W0,S,25,[(5,ti5),(9,ti9),(21,ti21),(26,ti26),(31,ti31),(265,ti265),(267,ti267),(268,ti268)],[191,192,193,194],bs,none,[]⟩
abbrev z_k9:FuncId:=162
theorem z_pp:Tryz.prog.funcs[z_k9]?=some Tryz.f162:=Tryz.func162
theorem z_nc (W0:World) (S:Nat->Prop) (bs:List Nat:=[]):Good (z_bp W0 S bs):=⟨fmc ⟨ok5,fmc ⟨ok9,fmc ⟨ok21,fmc ⟨ok26,fmc ⟨ok31,fmc ⟨ok265,fmc ⟨ok267,fmc ⟨ok268,(fun _ h=>by cases h)⟩⟩⟩⟩⟩⟩⟩⟩,fmc ⟨by kernel_rfl,fmc ⟨by kernel_rfl,fmc ⟨by kernel_rfl,fmc ⟨by kernel_rfl,(fun _ h=>by cases h)⟩⟩⟩⟩,mixed⟩
noncomputable def z_fP (W0:World) (S:Nat->Prop) (bs:List Nat:=[]):Cx:=⟨Tryz.prog,W0,S,24,[(3,ti3),(9,ti9)],[],bs,none,[]⟩
abbrev z_hj:FuncId:=172
theorem z_pr:Tryz.prog.funcs[z_hj]?=some Tryz.f172:=Tryz.func172
theorem z_nh (W0:World) (S:Nat->Prop) (bs:List Nat:=[]):Good (z_fP W0 S bs):=⟨fmc ⟨ok3,fmc ⟨ok9,(fun _ h=>by cases h)⟩⟩,(fun _ h=>by cases h),mixed⟩
noncomputable def z_f5 (W0:World) (S:Nat->Prop) (bs:List Nat:=[]):Cx:=⟨Tryz.prog,W0,S,21,[(3,ti3),(5,ti5),(22,ti22),(31,ti31)],[20,174],bs,none,[]⟩
abbrev z_hd:FuncId:=173
theorem z_pA:Tryz.prog.funcs[z_hd]?=some Tryz.f173:=Tryz.func173
def z_nZ:Plan:= .take 0 (.take 2 (.take 3 (.take 4 (.exec 1 (.exec 5 (.exec 6 (.take 7 (.done))))))))
theorem z_na (W0:World) (S:Nat->Prop) (bs:List Nat:=[]):Good (z_f5 W0 S bs):=⟨fmc ⟨ok3,fmc ⟨ok5,fmc ⟨ok22,fmc ⟨ok31,(fun _ h=>by cases h)⟩⟩⟩⟩,fmc ⟨by kernel_rfl,fmc ⟨by kernel_rfl,(fun _ h=>by cases h)⟩⟩,mixed⟩
noncomputable def z_oZ (W0:World) (S:Nat->Prop) (bs:List Nat:=[]):Cx:=⟨Tryz.prog,W0,S,21,[(3,ti3),(5,ti5),(22,ti22),(31,ti31)],[197],bs,none,[]⟩
abbrev z_p1:FuncId:=174
theorem z_t6:Tryz.prog.funcs[z_p1]?=some Tryz.f174:=Tryz.func174
theorem z_qf (W0:World) (S:Nat->Prop) (bs:List Nat:=[]):Good (z_oZ W0 S bs):=⟨fmc ⟨ok3,fmc ⟨ok5,fmc ⟨ok22,fmc ⟨ok31,(fun _ h=>by cases h)⟩⟩⟩⟩,fmc ⟨by kernel_rfl,(fun _ h=>by cases h)⟩,mixed⟩
noncomputable def z_ms (W0:World) (S:Nat->Prop) (bs:List Nat:=[]):Cx:=⟨Tryz.prog,W0,S,65,[(3,ti3),(5,ti5),(31,ti31),(205,ti205),(245,ti245)],[176,198],bs,none,[]⟩
abbrev z_nu:FuncId:=175
theorem z_rN:Tryz.prog.funcs[z_nu]?=some Tryz.f175:=Tryz.func175
def z_ox:Plan:= .take 0 (.take 1 (.take 2 (.take 3 (.take 4 (.take 5 (.take 6 (.take 7 (.take 8 (.take 9 (.done))))))))))
def z_oY:Plan:= .take 0 (.take 1 (.take 2 (.take 3 (.take 4 (.take 5 (.take 6 (.take 7 (.take 8 (.take 9 (.take 10 (.take 11 (.take 12 (.take 13 (.take 14 (.brk 15 (.done))))))))))))))))
theorem z_oo (W0:World) (S:Nat->Prop) (bs:List Nat:=[]):Good (z_ms W0 S bs):=⟨fmc ⟨ok3,fmc ⟨ok5,fmc ⟨ok31,fmc ⟨ok205,fmc ⟨ok245,(fun _ h=>by cases h)⟩⟩⟩⟩⟩,fmc ⟨by kernel_rfl,fmc ⟨by kernel_rfl,(fun _ h=>by cases h)⟩⟩,mixed⟩
noncomputable def z_c6 (W0:World) (S:Nat->Prop) (bs:List Nat:=[]):Cx:=⟨Tryz.prog,W0,S,17,[(3,ti3),(163,ti163),(205,ti205)],[],bs,none,[]⟩
abbrev z_dr:FuncId:=176
theorem z_hy:Tryz.prog.funcs[z_dr]?=some Tryz.f176:=Tryz.func176
theorem z_gj (W0:World) (S:Nat->Prop) (bs:List Nat:=[]):Good (z_c6 W0 S bs):=⟨fmc ⟨ok3,fmc ⟨ok163,fmc ⟨ok205,(fun _ h=>by cases h)⟩⟩⟩,(fun _ h=>by cases h),mixed⟩
noncomputable def z_fp (W0:World) (S:Nat->Prop) (bs:List Nat:=[]):Cx:=⟨Tryz.prog,W0,S,26,[(3,ti3),(150,ti150)],[],bs,none,[]⟩
abbrev z_fW:FuncId:=179
theorem z_lF:Tryz.prog.funcs[z_fW]?=some Tryz.f179:=Tryz.func179
def z_kg:Plan:= .take 0 (.take 1 (.take 2 (.take 3 (.take 4 (.take 5 (.take 6 (.take 7 (.take 8 (.done)))))))))
theorem z_i3 (W0:World) (S:Nat->Prop) (bs:List Nat:=[]):Good (z_fp W0 S bs):=⟨fmc ⟨ok3,fmc ⟨ok150,(fun _ h=>by cases h)⟩⟩,(fun _ h=>by cases h),mixed⟩
noncomputable def z_ex (W0:World) (S:Nat->Prop) (bs:List Nat:=[]):Cx:=⟨Tryz.prog,W0,S,3,[(3,ti3),(5,ti5),(31,ti31)],[],bs,none,[]⟩
abbrev z_e7:FuncId:=180
theorem z_kB:Tryz.prog.funcs[z_e7]?=some Tryz.f180:=Tryz.func180
theorem z_iu (W0:World) (S:Nat->Prop) (bs:List Nat:=[]):Good (z_ex W0 S bs):=⟨fmc ⟨ok3,fmc ⟨ok5,fmc ⟨ok31,(fun _ h=>by cases h)⟩⟩⟩,(fun _ h=>by cases h),mixed⟩
noncomputable def z_bx (W0:World) (S:Nat->Prop) (bs:List Nat:=[]):Cx:=⟨Tryz.prog,W0,S,17,[(3,ti3),(5,ti5),(31,ti31),(205,ti205),(249,ti249)],[199],bs,none,[]⟩
abbrev z_hv:FuncId:=181
theorem z_no:Tryz.prog.funcs[z_hv]?=some Tryz.f181:=Tryz.func181
def z_lQ:Plan:= .take 1 (.take 2 (.take 4 (.take 5 (.exec 0 (.exec 3 (.exec 6 (.take 7 (.done))))))))
theorem z_k1 (W0:World) (S:Nat->Prop) (bs:List Nat:=[]):Good (z_bx W0 S bs):=⟨fmc ⟨ok3,fmc ⟨ok5,fmc ⟨ok31,fmc ⟨ok205,fmc ⟨ok249,(fun _ h=>by cases h)⟩⟩⟩⟩⟩,fmc ⟨by kernel_rfl,(fun _ h=>by cases h)⟩,mixed⟩
noncomputable def z_eI (W0:World) (S:Nat->Prop) (bs:List Nat:=[]):Cx:=⟨Tryz.prog,W0,S,2,[(205,ti205),(249,ti249)],[],bs,none,[]⟩
abbrev z_ft:FuncId:=182
theorem z_kX:Tryz.prog.funcs[z_ft]?=some Tryz.f182:=Tryz.func182
theorem z_it (W0:World) (S:Nat->Prop) (bs:List Nat:=[]):Good (z_eI W0 S bs):=⟨fmc ⟨ok205,fmc ⟨ok249,(fun _ h=>by cases h)⟩⟩,(fun _ h=>by cases h),mixed⟩
noncomputable def z_fb (W0:World) (S:Nat->Prop) (bs:List Nat:=[]):Cx:=⟨Tryz.prog,W0,S,22,[(3,ti3),(5,ti5),(22,ti22),(31,ti31)],[87],bs,none,[]⟩
abbrev z_fK:FuncId:=183
theorem z_lz:Tryz.prog.funcs[z_fK]?=some Tryz.f183:=Tryz.func183
theorem z_iJ (W0:World) (S:Nat->Prop) (bs:List Nat:=[]):Good (z_fb W0 S bs):=⟨fmc ⟨ok3,fmc ⟨ok5,fmc ⟨ok22,fmc ⟨ok31,(fun _ h=>by cases h)⟩⟩⟩⟩,fmc ⟨by kernel_rfl,(fun _ h=>by cases h)⟩,mixed⟩
noncomputable def z_f3 (W0:World) (S:Nat->Prop) (bs:List Nat:=[]):Cx:=⟨Tryz.prog,W0,S,17,[(3,ti3),(5,ti5),(22,ti22),(31,ti31),(205,ti205),(249,ti249)],[87],bs,none,[]⟩
abbrev z_gz:FuncId:=184
theorem z_lU:Tryz.prog.funcs[z_gz]?=some Tryz.f184:=Tryz.func184
theorem z_kc (W0:World) (S:Nat->Prop) (bs:List Nat:=[]):Good (z_f3 W0 S bs):=⟨fmc ⟨ok3,fmc ⟨ok5,fmc ⟨ok22,fmc ⟨ok31,fmc ⟨ok205,fmc ⟨ok249,(fun _ h=>by cases h)⟩⟩⟩⟩⟩⟩,fmc ⟨by kernel_rfl,(fun _ h=>by cases h)⟩,mixed⟩
noncomputable def z_eT (W0:World) (S:Nat->Prop) (bs:List Nat:=[]):Cx:=⟨Tryz.prog,W0,S,28,[(3,ti3),(9,ti9),(254,ti254),(257,ti257)],[200],bs,none,[]⟩
abbrev z_fh:FuncId:=185
theorem z_k0:Tryz.prog.funcs[z_fh]?=some Tryz.f185:=Tryz.func185
theorem z_h3 (W0:World) (S:Nat->Prop) (bs:List Nat:=[]):Good (z_eT W0 S bs):=⟨fmc ⟨ok3,fmc ⟨ok9,fmc ⟨ok254,fmc ⟨ok257,(fun _ h=>by cases h)⟩⟩⟩⟩,fmc ⟨by kernel_rfl,(fun _ h=>by cases h)⟩,mixed⟩
noncomputable def z_eL (W0:World) (S:Nat->Prop) (bs:List Nat:=[]):Cx:=⟨Tryz.prog,W0,S,29,[(3,ti3)],[],bs,none,[]⟩
abbrev z_fi:FuncId:=186
theorem z_kH:Tryz.prog.funcs[z_fi]?=some Tryz.f186:=Tryz.func186
theorem z_in (W0:World) (S:Nat->Prop) (bs:List Nat:=[]):Good (z_eL W0 S bs):=⟨fmc ⟨ok3,(fun _ h=>by cases h)⟩,(fun _ h=>by cases h),mixed⟩
noncomputable def z_fs (W0:World) (S:Nat->Prop) (bs:List Nat:=[]):Cx:=⟨Tryz.prog,W0,S,29,[(3,ti3)],[],bs,none,[]⟩
abbrev z_gk:FuncId:=187
theorem z_lj:Tryz.prog.funcs[z_gk]?=some Tryz.f187:=Tryz.func187
theorem z_iQ (W0:World) (S:Nat->Prop) (bs:List Nat:=[]):Good (z_fs W0 S bs):=⟨fmc ⟨ok3,(fun _ h=>by cases h)⟩,(fun _ h=>by cases h),mixed⟩
noncomputable def z_fv (W0:World) (S:Nat->Prop) (bs:List Nat:=[]):Cx:=⟨Tryz.prog,W0,S,48,[(3,ti3)],[],bs,none,[]⟩
abbrev z_ga:FuncId:=188
theorem z_lB:Tryz.prog.funcs[z_ga]?=some Tryz.f188:=Tryz.func188
theorem z_iZ (W0:World) (S:Nat->Prop) (bs:List Nat:=[]):Good (z_fv W0 S bs):=⟨fmc ⟨ok3,(fun _ h=>by cases h)⟩,(fun _ h=>by cases h),mixed⟩
noncomputable def z_eX (W0:World) (S:Nat->Prop) (bs:List Nat:=[]):Cx:=⟨Tryz.prog,W0,S,73,[(3,ti3),(5,ti5),(31,ti31)],[],bs,none,[]⟩
abbrev z_fw:FuncId:=189
theorem z_kD:Tryz.prog.funcs[z_fw]?=some Tryz.f189:=Tryz.func189
theorem z_ig (W0:World) (S:Nat->Prop) (bs:List Nat:=[]):Good (z_eX W0 S bs):=⟨fmc ⟨ok3,fmc ⟨ok5,fmc ⟨ok31,(fun _ h=>by cases h)⟩⟩⟩,(fun _ h=>by cases h),mixed⟩
noncomputable def z_bS (W0:World) (S:Nat->Prop) (bs:List Nat:=[]):Cx:=⟨Tryz.prog,W0,S,28,[(3,ti3),(22,ti22),(57,ti57)],[125],bs,none,[]⟩
abbrev z_b7:FuncId:=190
theorem z_e5:Tryz.prog.funcs[z_b7]?=some Tryz.f190:=Tryz.func190
def z_ei:Plan:= .take 0 (.take 1 (.take 2 (.take 3 (.take 4 (.take 5 (.take 6 (.take 7 (.exec 8 (.done)))))))))
theorem z_d4 (W0:World) (S:Nat->Prop) (bs:List Nat:=[]):Good (z_bS W0 S bs):=⟨fmc ⟨ok3,fmc ⟨ok22,fmc ⟨ok57,(fun _ h=>by cases h)⟩⟩⟩,fmc ⟨by kernel_rfl,(fun _ h=>by cases h)⟩,mixed⟩
noncomputable def z_mL (W0:World) (S:Nat->Prop) (bs:List Nat:=[]):Cx:=⟨Tryz.prog,W0,S,11,[(4,ti4),(9,ti9),(21,ti21)],[201],bs,none,[]⟩
abbrev z_nv:FuncId:=191
theorem z_rx:Tryz.prog.funcs[z_nv]?=some Tryz.f191:=Tryz.func191
theorem z_oi (W0:World) (S:Nat->Prop) (bs:List Nat:=[]):Good (z_mL W0 S bs):=⟨fmc ⟨ok4,fmc ⟨ok9,fmc ⟨ok21,(fun _ h=>by cases h)⟩⟩⟩,fmc ⟨by kernel_rfl,(fun _ h=>by cases h)⟩,mixed⟩
noncomputable def z_iB (W0:World) (S:Nat->Prop) (bs:List Nat:=[]):Cx:=⟨Tryz.prog,W0,S,4,[(9,ti9)],[202],bs,none,[]⟩
abbrev z_jT:FuncId:=192
theorem z_o7:Tryz.prog.funcs[z_jT]?=some Tryz.f192:=Tryz.func192
theorem z_lT (W0:World) (S:Nat->Prop) (bs:List Nat:=[]):Good (z_iB W0 S bs):=⟨fmc ⟨ok9,(fun _ h=>by cases h)⟩,fmc ⟨by kernel_rfl,(fun _ h=>by cases h)⟩,mixed⟩
noncomputable def z_hm (W0:World) (S:Nat->Prop) (bs:List Nat:=[]):Cx:=⟨Tryz.prog,W0,S,24,[(3,ti3),(21,ti21),(265,ti265),(267,ti267)],[],bs,none,[]⟩
abbrev z_l0:FuncId:=193
theorem z_qh:Tryz.prog.funcs[z_l0]?=some Tryz.f193:=Tryz.func193
theorem z_n2 (W0:World) (S:Nat->Prop) (bs:List Nat:=[]):Good (z_hm W0 S bs):=⟨fmc ⟨ok3,fmc ⟨ok21,fmc ⟨ok265,fmc ⟨ok267,(fun _ h=>by cases h)⟩⟩⟩⟩,(fun _ h=>by cases h),mixed⟩
noncomputable def z_k4 (W0:World) (S:Nat->Prop) (bs:List Nat:=[]):Cx:=⟨Tryz.prog,W0,S,60,[(3,ti3),(5,ti5),(21,ti21),(31,ti31),(283,ti283),(284,ti284)],[20,203],bs,none,[]⟩
abbrev z_l7:FuncId:=194
theorem z_qn:Tryz.prog.funcs[z_l7]?=some Tryz.f194:=Tryz.func194
theorem z_nQ (W0:World) (S:Nat->Prop) (bs:List Nat:=[]):Good (z_k4 W0 S bs):=⟨fmc ⟨ok3,fmc ⟨ok5,fmc ⟨ok21,fmc ⟨ok31,fmc ⟨ok283,fmc ⟨ok284,(fun _ h=>by cases h)⟩⟩⟩⟩⟩⟩,fmc ⟨by kernel_rfl,fmc ⟨by kernel_rfl,(fun _ h=>by cases h)⟩⟩,mixed⟩
noncomputable def z_os (W0:World) (S:Nat->Prop) (bs:List Nat:=[]):Cx:=⟨Tryz.prog,W0,S,19,[(3,ti3),(5,ti5),(22,ti22),(31,ti31)],[],bs,none,[]⟩
abbrev z_pE:FuncId:=197
theorem z_ul:Tryz.prog.funcs[z_pE]?=some Tryz.f197:=Tryz.func197
theorem z_qD (W0:World) (S:Nat->Prop) (bs:List Nat:=[]):Good (z_os W0 S bs):=⟨fmc ⟨ok3,fmc ⟨ok5,fmc ⟨ok22,fmc ⟨ok31,(fun _ h=>by cases h)⟩⟩⟩⟩,(fun _ h=>by cases h),mixed⟩
noncomputable def z_o0 (W0:World) (S:Nat->Prop) (bs:List Nat:=[]):Cx:=⟨Tryz.prog,W0,S,25,[(5,ti5),(31,ti31),(205,ti205)],[],bs,none,[]⟩
abbrev z_pP:FuncId:=198
theorem z_t7:Tryz.prog.funcs[z_pP]?=some Tryz.f198:=Tryz.func198
def z_rn:Plan:= .take 0 (.take 1 (.take 2 (.take 3 (.take 4 (.take 5 (.take 6 (.take 7 (.take 8 (.take 9 (.take 10 (.take 11 (.take 12 (.take 13 (.take 14 (.take 15 (.take 16 (.take 17 (.take 18 (.take 19 (.take 20 (.take 21 (.take 22 (.done)))))))))))))))))))))))
theorem z_qs (W0:World) (S:Nat->Prop) (bs:List Nat:=[]):Good (z_o0 W0 S bs):=⟨fmc ⟨ok5,fmc ⟨ok31,fmc ⟨ok205,(fun _ h=>by cases h)⟩⟩⟩,(fun _ h=>by cases h),mixed⟩
noncomputable def z_bj (W0:World) (S:Nat->Prop) (bs:List Nat:=[]):Cx:=⟨Tryz.prog,W0,S,178,[(3,ti3),(5,ti5),(22,ti22),(31,ti31),(163,ti163),(205,ti205),(245,ti245),(249,ti249)],[81,204],bs,none,[]⟩
abbrev z_dj:FuncId:=199
theorem z_lJ:Tryz.prog.funcs[z_dj]?=some Tryz.f199:=Tryz.func199
def z_ji:Plan:= .take 0 (.take 1 (.take 2 (.take 3 (.take 5 (.take 6 (.take 7 (.take 8 (.take 11 (.take 12 (.take 13 (.take 14 (.take 15 (.exec 4 (.exec 9 (.take 10 (.take 16 (.take 17 (.done))))))))))))))))))
def z_kq:Plan:= .take 0 (.take 1 (.take 2 (.take 3 (.take 5 (.take 6 (.take 7 (.take 8 (.take 11 (.take 12 (.take 13 (.take 14 (.take 15 (.exec 4 (.exec 9 (.take 10 (.take 16 (.take 17 (.done))))))))))))))))))
def z_jp:Plan:= .take 0 (.take 1 (.take 2 (.take 3 (.take 4 (.take 5 (.take 6 (.take 7 (.take 8 (.take 9 (.take 10 (.take 11 (.take 12 (.take 13 (.take 14 (.brk 15 (.done))))))))))))))))
def z_i1:Plan:= .take 0 (.take 1 (.take 2 (.take 4 (.take 7 (.take 11 (.take 12 (.take 13 (.take 14 (.take 15 (.take 16 (.take 17 (.take 18 (.take 19 (.take 20 (.take 22 (.take 23 (.take 24 (.take 26 (.take 27 (.take 28 (.exec 3 (.exec 5 (.take 6 (.exec 8 (.take 9 (.take 10 (.take 21 (.take 25 (.take 29 (.take 30 (.done)))))))))))))))))))))))))))))))
def z_i8:Plan:= .take 0 (.take 2 (.take 5 (.take 8 (.take 9 (.take 10 (.take 11 (.take 12 (.take 13 (.take 14 (.take 15 (.take 16 (.take 17 (.take 18 (.take 19 (.take 20 (.take 21 (.take 22 (.exec 1 (.exec 3 (.take 4 (.exec 6 (.take 7 (.take 23 (.take 24 (.done)))))))))))))))))))))))))
def z_i6:Plan:= .take 0 (.take 1 (.take 2 (.take 3 (.take 4 (.take 5 (.take 6 (.take 7 (.brk 8 (.done)))))))))
theorem z_iL (W0:World) (S:Nat->Prop) (bs:List Nat:=[]):Good (z_bj W0 S bs):=⟨fmc ⟨ok3,fmc ⟨ok5,fmc ⟨ok22,fmc ⟨ok31,fmc ⟨ok163,fmc ⟨ok205,fmc ⟨ok245,fmc ⟨ok249,(fun _ h=>by cases h)⟩⟩⟩⟩⟩⟩⟩⟩,fmc ⟨by kernel_rfl,fmc ⟨by kernel_rfl,(fun _ h=>by cases h)⟩⟩,mixed⟩
noncomputable def z_cG (W0:World) (S:Nat->Prop) (bs:List Nat:=[]):Cx:=⟨Tryz.prog,W0,S,92,[(3,ti3),(5,ti5),(9,ti9)],[205],bs,none,[]⟩
abbrev z_fo:FuncId:=200
theorem z_kG:Tryz.prog.funcs[z_fo]?=some Tryz.f200:=Tryz.func200
theorem z_hZ (W0:World) (S:Nat->Prop) (bs:List Nat:=[]):Good (z_cG W0 S bs):=⟨fmc ⟨ok3,fmc ⟨ok5,fmc ⟨ok9,(fun _ h=>by cases h)⟩⟩⟩,fmc ⟨by kernel_rfl,(fun _ h=>by cases h)⟩,mixed⟩
noncomputable def z_mp (W0:World) (S:Nat->Prop) (bs:List Nat:=[]):Cx:=⟨Tryz.prog,W0,S,4,[(9,ti9)],[206],bs,none,[]⟩
abbrev z_nw:FuncId:=201
theorem z_qK:Tryz.prog.funcs[z_nw]?=some Tryz.f201:=Tryz.func201
theorem z_pd (W0:World) (S:Nat->Prop) (bs:List Nat:=[]):Good (z_mp W0 S bs):=⟨fmc ⟨ok9,(fun _ h=>by cases h)⟩,fmc ⟨by kernel_rfl,(fun _ h=>by cases h)⟩,mixed⟩
noncomputable def z_dR (W0:World) (S:Nat->Prop) (bs:List Nat:=[]):Cx:=⟨Tryz.prog,W0,S,21,[(9,ti9),(21,ti21),(265,ti265),(267,ti267),(279,ti279),(280,ti280),(281,ti281)],[193,201],bs,none,[]⟩
abbrev z_eu:FuncId:=202
theorem z_nn:Tryz.prog.funcs[z_eu]?=some Tryz.f202:=Tryz.func202
theorem z_kS (W0:World) (S:Nat->Prop) (bs:List Nat:=[]):Good (z_dR W0 S bs):=⟨fmc ⟨ok9,fmc ⟨ok21,fmc ⟨ok265,fmc ⟨ok267,fmc ⟨ok279,fmc ⟨ok280,fmc ⟨ok281,(fun _ h=>by cases h)⟩⟩⟩⟩⟩⟩⟩,fmc ⟨by kernel_rfl,fmc ⟨by kernel_rfl,(fun _ h=>by cases h)⟩⟩,mixed⟩
noncomputable def z_j0 (W0:World) (S:Nat->Prop) (bs:List Nat:=[]):Cx:=⟨Tryz.prog,W0,S,17,[(21,ti21)],[],bs,none,[]⟩
abbrev z_oq:FuncId:=203
theorem z_su:Tryz.prog.funcs[z_oq]?=some Tryz.f203:=Tryz.func203
theorem z_py (W0:World) (S:Nat->Prop) (bs:List Nat:=[]):Good (z_j0 W0 S bs):=⟨fmc ⟨ok21,(fun _ h=>by cases h)⟩,(fun _ h=>by cases h),mixed⟩
noncomputable def z_fl (W0:World) (S:Nat->Prop) (bs:List Nat:=[]):Cx:=⟨Tryz.prog,W0,S,13,[(163,ti163),(205,ti205)],[],bs,none,[]⟩
abbrev z_f4:FuncId:=204
theorem z_lD:Tryz.prog.funcs[z_f4]?=some Tryz.f204:=Tryz.func204
theorem z_iM (W0:World) (S:Nat->Prop) (bs:List Nat:=[]):Good (z_fl W0 S bs):=⟨fmc ⟨ok163,fmc ⟨ok205,(fun _ h=>by cases h)⟩⟩,(fun _ h=>by cases h),mixed⟩
noncomputable def z_fm (W0:World) (S:Nat->Prop) (bs:List Nat:=[]):Cx:=⟨Tryz.prog,W0,S,9,[(5,ti5)],[],bs,none,[]⟩
abbrev z_gc:FuncId:=205
theorem z_lr:Tryz.prog.funcs[z_gc]?=some Tryz.f205:=Tryz.func205
theorem z_i2 (W0:World) (S:Nat->Prop) (bs:List Nat:=[]):Good (z_fm W0 S bs):=⟨fmc ⟨ok5,(fun _ h=>by cases h)⟩,(fun _ h=>by cases h),mixed⟩
noncomputable def z_fM (W0:World) (S:Nat->Prop) (bs:List Nat:=[]):Cx:=⟨Tryz.prog,W0,S,25,[(3,ti3),(9,ti9),(21,ti21)],[207],bs,none,[]⟩
abbrev z_hb:FuncId:=206
theorem z_pu:Tryz.prog.funcs[z_hb]?=some Tryz.f206:=Tryz.func206
theorem z_m0 (W0:World) (S:Nat->Prop) (bs:List Nat:=[]):Good (z_fM W0 S bs):=⟨fmc ⟨ok3,fmc ⟨ok9,fmc ⟨ok21,(fun _ h=>by cases h)⟩⟩⟩,fmc ⟨by kernel_rfl,(fun _ h=>by cases h)⟩,mixed⟩
noncomputable def z_ew (W0:World) (S:Nat->Prop) (bs:List Nat:=[]):Cx:=⟨Tryz.prog,W0,S,64,[(3,ti3),(5,ti5),(9,ti9),(21,ti21),(283,ti283),(284,ti284)],[203],bs,none,[]⟩
abbrev z_mH:FuncId:=207
theorem z_qA:Tryz.prog.funcs[z_mH]?=some Tryz.f207:=Tryz.func207
def z_oX:Plan:= .take 0 (.take 1 (.take 2 (.take 3 (.take 4 (.take 5 (.take 6 (.take 7 (.take 8 (.take 9 (.take 10 (.take 11 (.take 12 (.take 13 (.take 14 (.done)))))))))))))))
def z_or:Plan:= .take 0 (.take 1 (.take 2 (.take 3 (.take 4 (.take 5 (.take 6 (.done)))))))
def z_nU:Plan:= .take 0 (.take 1 (.take 2 (.take 3 (.take 4 (.done)))))
theorem z_nV (W0:World) (S:Nat->Prop) (bs:List Nat:=[]):Good (z_ew W0 S bs):=⟨fmc ⟨ok3,fmc ⟨ok5,fmc ⟨ok9,fmc ⟨ok21,fmc ⟨ok283,fmc ⟨ok284,(fun _ h=>by cases h)⟩⟩⟩⟩⟩⟩,fmc ⟨by kernel_rfl,(fun _ h=>by cases h)⟩,mixed⟩
end Go.Proofs.YtfomhhkoamapmaaGreatDoor.Sx
namespace Go.Proofs.YtfomhhkoamapmaaGreatDoor.Sx
open Go
attribute [local irreducible] Calls
theorem z_zw (w:World) (A:Option Addr) (l:List UInt8) (c:Nat) (hr:Bs w A l) (hn:l.length<=lim):
  Calls Tryz.prog z_c8 #[.slice A l.length c] w fun e w'=> ∃v,e= .returned v/\ ∃A' c',v= .slice A' l.length c'/\Chg None_ w w'/\NewRow w w' A' l c' z_ab:=by
 refine z_bh (cx:=z_fu w None_) (z_iG w None_) z_le rfl rfl (β:=Va.z) [.c (.v (.slice A l.length c))] 0 [] [bsF A l] rfl rfl ((Sat.start rfl).rd (fun _ h=>by cases h) hr) ?_
 intro b
 refine ⟨0,0,l.length,[],l.map byte,_,rfl,fun β w hs=>hs.get 1 rfl,z_as l,Nat.zero_add _,rfl,by rw [maxLen_eq];rw [z_o8] at hn;omega,by show l.length*1<=_;rw [z_o8] at hn;omega,?_⟩
 intro A' c' h1 h2 h3 β w' hs
 exact ⟨A',c',rfl,hs.chg,hs.newRow rfl 0 rfl h1 h2⟩
theorem z_ra (w:World) (A B:Option Addr) (l m:List UInt8) (c d:Nat) (hl:Bs w A l) (hm:Bs w B m):
  Calls Tryz.prog z_df #[.slice A l.length c,.slice B m.length d] w fun e w'=> ∃v,e= .returned v/\v= .bool (decide (l=m))/\Chg None_ w w':=by
 refine z_bh (cx:=z_fx w None_) (z_iW w None_) z_lu rfl rfl (β:=Va.z) [.c (.v (.slice A l.length c)),.c (.v (.slice B m.length d))] 0 [] [bsF B m,bsF A l] rfl rfl (((Sat.start rfl).rd (fun _ h=>by cases h) hl).rd (fun g h=>by obtain rfl:=List.mem_singleton.1 h;rfl) hm) ?_
 refine ⟨l,fun β w hs=>hs.get 1 rfl,?_⟩
 refine ⟨m,fun β w hs=>hs.get 0 rfl,?_⟩
 intro β w' hs
 refine ⟨?_,hs.chg⟩
 show Value.bool (decide ((⟨l.toArray⟩:ByteArray)=⟨m.toArray⟩))=_
 congr 1
 simp
def numB (l:List UInt8):Nat:=l.foldl (fun a x=>(a*256+x.toNat)%18446744073709551616) 0
theorem z_jJ (l:List UInt8) (x:UInt8):numB (l++[x])=(numB l*256+x.toNat)%18446744073709551616:=by simp [numB]
theorem z_ok (l:List UInt8) (k:Nat) (h:k<l.length):l.take (k+1)=l.take k++[l[k]]:=by rw [List.take_succ_eq_append_getElem h]
theorem z_c7 (x:Int):IntKind.u64.wrap x=x%18446744073709551616:=by simp [IntKind.wrap,IntKind.bits,IntKind.signed]
theorem num_c (w:World) (A:Option Addr) (l:List UInt8) (c:Nat) (hr:Bs w A l) (hn:l.length<=lim):
  Calls Tryz.prog z_dI #[.slice A l.length c] w fun e w'=> ∃v,e= .returned v/\v= .int .u64 (numB l)/\Chg None_ w w':=by
 rw [z_o8] at hn
 have g:=z_jg w None_
 refine z_bh (cx:=z_f7 w None_) g z_l2 rfl rfl (β:=Va.z) [.c (.v (.slice A l.length c))] 0 [] [bsF A l] rfl rfl ((Sat.start rfl).rd (fun _ h=>by cases h) hr) ?_
 refine z_ag 0 (fun k:Nat=>[(6,.c (.v (.slice A l.length c))),(7,.c (.v (.int .i64 l.length))),(8,.c (.v (.int .i64 k))),(3,.c (.v (.int .u64 (numB (l.take k)))))]) (fun _=>[]) (fun _=>[bsF A l])
  (fun k=>k<=l.length) (fun k=>l.length - k) 0 (Nat.zero_le _) (Ent.same ⟨rfl,rfl,rfl,rfl,trivial⟩ rfl) g ?_
 intro k hk
 refine BIf.dec (fun hlt=>?_) (fun hge=>?_)
 ·have hlt:k<l.length:=by omega
  obtain ⟨ad,hA⟩:=Bs.addr hr (by omega)
  refine ⟨ad,k,hA,rfl,hlt,byte l[k],fun β w hs=>Bs.cell (hs.get 0 rfl) hA hlt,?_⟩
  refine ⟨_,z_c7 _,?_⟩
  refine ⟨((l[k].toNat:Nat):Int),by rw [z_c7];have:=l[k].toNat_lt;omega,?_⟩
  refine ⟨(numB (l.take (k+1)):Int),by rw [z_c7,z_ok l k hlt,z_jJ];omega,?_⟩
  refine ⟨((k+1:Nat):Int),by rw [wrap_i64 (by omega) (by omega)];rfl,?_⟩
  exact ⟨k+1,hlt,by omega,Ent.same ⟨rfl,rfl,rfl,rfl,trivial⟩ rfl⟩
 ·intro β w' hs
  refine ⟨?_,hs.chg⟩
  show Value.int .u64 (numB (l.take k))=_
  rw [List.take_of_length_le (by omega)]
end Go.Proofs.YtfomhhkoamapmaaGreatDoor.Sx
namespace Go.Proofs.YtfomhhkoamapmaaGreatDoor.Sx
open Go
def Un (Gs:List Fact):Nat->Prop:=fun k=> ∃g∈Gs,g.D k
structure Mem (w:World) (F:List Fact):Prop where
 fact: ∀f∈F,f.p w
 flt: ∀f∈F,∀k,f.D k->k<w.heap.size
 sepf:F.Pairwise (fun f g=>f.own=true\/g.own=true-> ∀k,f.D k-> ¬g.D k)
def Owns:List Fact->Prop
 | []=>True
 | f::r=>f.own=true/\Owns r
theorem Owns.mem: ∀ {l:List Fact},Owns l-> ∀f∈l,f.own=true
 | _::_,h,g,hg=>by
  rcases List.mem_cons.1 hg with rfl | hg
  ·exact h.1
  ·exact Owns.mem h.2 g hg
def takeIx (F:List Fact):List Nat->List Fact
 | []=>[]
 | j::r=>match nth F j with | some f=>f::takeIx F r | none=>[]
def dropIx (js:List Nat):Nat->List Fact->List Fact
 | _,[]=>[]
 | i,f::r=>match memb js i with | true=>dropIx js (i+1) r | false=>f::dropIx js (i+1) r
def nodupB:List Nat->Bool
 | []=>true
 | j::r=>match memb r j with | true=>false | false=>nodupB r
theorem z_sG {l:List Nat} {y:Nat} (h:memb l y=false):y∉l:=by
 induction l with
 | nil=>exact List.not_mem_nil
 | cons x r ih=>
  simp only [memb] at h
  cases hb:Nat.beq x y with
  | true=>rw [hb] at h;cases h
  | false=>
   rw [hb] at h
   intro q
   rcases List.mem_cons.1 q with rfl | q
   ·rw [Nat.beq_refl] at hb;cases hb
   ·exact ih h q
theorem z_bK {F:List Fact}: ∀ {js:List Nat} {g:Fact},g∈takeIx F js-> ∃j∈js,F[j]?=some g
 | j::r,g,h=>by
  simp only [takeIx] at h
  split at h
  ·rename_i f hf
   rw [z_aX] at hf
   rcases List.mem_cons.1 h with rfl | h
   ·exact ⟨j,List.mem_cons_self,hf⟩
   ·obtain ⟨i,hi,q⟩:=z_bK h
    exact ⟨i,List.mem_cons_of_mem _ hi,q⟩
  ·cases h
theorem z_hH {js:List Nat}: ∀ {F:List Fact} {i:Nat} {g:Fact},g∈dropIx js i F-> ∃k,F[k]?=some g/\(i+k)∉js
 | f::r,i,g,h=>by
  simp only [dropIx] at h
  cases hb:memb js i with
  | true=>
   rw [hb] at h
   obtain ⟨k,h1,h2⟩:=z_hH h
   exact ⟨k+1,by simpa using h1,by rw [Nat.add_comm k 1,<-Nat.add_assoc];exact h2⟩
  | false=>
   rw [hb] at h
   rcases List.mem_cons.1 h with rfl | h
   ·exact ⟨0,rfl,z_sG hb⟩
   ·obtain ⟨k,h1,h2⟩:=z_hH h
    exact ⟨k+1,by simpa using h1,by rw [Nat.add_comm k 1,<-Nat.add_assoc];exact h2⟩
theorem z_er (js:List Nat): ∀(F:List Fact) (i:Nat),List.Sublist (dropIx js i F) F
 | [],_=>List.Sublist.slnil
 | f::r,i=>by
  simp only [dropIx]
  cases memb js i with
  | true=>exact (z_er js r (i+1)).cons _
  | false=>exact (z_er js r (i+1)).cons_cons _
section
variable {cx:Cx} {β:Va} {n:Nat} {env:Env} {H:List Bk} {F:List Fact} {a:Act} {w w':World}
theorem Sat.mem (h:Sat cx β n H F w):Mem w F:=⟨h.fact,h.flt,h.sepf⟩
theorem Mem.take (h:Mem w F): ∀ {js:List Nat},nodupB js=true->Mem w (takeIx F js)
 | [],_=>⟨fun _ q=>(by cases q),fun _ q=>(by cases q),List.Pairwise.nil⟩
 | j::r,hn=>by
  simp only [nodupB] at hn
  cases hb:memb r j with
  | true=>rw [hb] at hn;cases hn
  | false=>
   rw [hb] at hn
   have ih:=Mem.take h hn
   simp only [takeIx]
   split
   ·rename_i f hf
    rw [z_aX] at hf
    have hfm:=List.mem_of_getElem? hf
    refine ⟨fun g hg=>?_,fun g hg=>?_,List.pairwise_cons.2 ⟨fun g hg ho k hk hk'=>?_,ih.sepf⟩⟩
    ·rcases List.mem_cons.1 hg with rfl | hg
     ·exact h.fact _ hfm
     ·exact ih.fact g hg
    ·rcases List.mem_cons.1 hg with rfl | hg
     ·exact h.flt _ hfm
     ·exact ih.flt g hg
    ·obtain ⟨i,hi,hgi⟩:=z_bK hg
     have hne:j≠i:=fun q=>by subst q;exact z_sG hb hi
     obtain ⟨hjl,rfl⟩:=List.getElem?_eq_some_iff.1 hf
     obtain ⟨hil,rfl⟩:=List.getElem?_eq_some_iff.1 hgi
     have hp:=List.pairwise_iff_getElem.1 h.sepf
     rcases Nat.lt_or_gt_of_ne hne with hlt | hgt
     ·exact hp j i hjl hil hlt ho k hk hk'
     ·exact hp i j hil hjl hgt ho.symm k hk' hk
   ·exact ⟨fun _ q=>(by cases q),fun _ q=>(by cases q),List.Pairwise.nil⟩
theorem Sat.swap (h:Sat cx β n H F w) (js:List Nat) (hown:Owns (takeIx F js)) {Fs:List Fact} (hc:Chg (Un (takeIx F js)) w w') (hm:Mem w' Fs)
  (hD: ∀f∈Fs,∀k,f.D k->Un (takeIx F js) k\/w.heap.size<=k):Sat cx β n H (Fs++dropIx js 0 F) w':=by
 have hfm: ∀g∈takeIx F js,g∈F:=fun g hg=>by obtain ⟨j,_,q⟩:=z_bK hg;exact List.mem_of_getElem? q
 have hdm: ∀g∈dropIx js 0 F,g∈F:=fun g hg=>(z_er js F 0).subset hg
 have hap: ∀g∈takeIx F js,∀d∈dropIx js 0 F,∀k,g.D k-> ¬d.D k:=by
  intro g hg d hd
  obtain ⟨j,hj,hgj⟩:=z_bK hg
  obtain ⟨i,hi,hni⟩:=z_hH hd
  exact h.apart hgj hi (fun q=>by subst q;rw [Nat.zero_add] at hni;exact hni hj) (.inl (hown.mem g hg))
 have hS: ∀k,Un (takeIx F js) k->cx.S k\/cx.W0.heap.size<=k:=fun k ⟨g,hg,hk⟩=>h.fown g (hfm g hg) (hown.mem g hg) k hk
 refine ⟨?_,h.fix,fun b hb=>?_,h.mine,h.inj,h.ltb,fun f hf=>?_,fun f hf k hk=>?_,fun f hf b hb=>?_,fun f hf ho k hk=>?_,List.pairwise_append.2 ⟨hm.sepf,h.sepf.sublist (z_er js F 0),fun f hf d hd _ k hk hk'=>?_⟩,fun p hp=>⟨?_,(h.pin p hp).2.1,fun f hf=>?_⟩,h.mrk,h.rnd⟩
 ·refine ⟨hc.os.trans h.chg.os,hc.tape.trans h.chg.tape,hc.output.trans h.chg.output,Nat.le_trans h.chg.size hc.size,fun k hk hn=>?_⟩
  rw [hc.same k (Nat.lt_of_lt_of_le hk h.chg.size) (fun q=>?_)]
  ·exact h.chg.same k hk hn
  ·rcases hS k q with q | q
   ·exact hn q
   ·omega
 ·rw [hc.same _ (h.lt hb) (fun ⟨g,hg,hk⟩=>h.sepb g (hfm g hg) b hb hk)];exact h.blk b hb
 ·rcases List.mem_append.1 hf with hf | hf
  ·exact hm.fact f hf
  ·exact f.st _ _ (fun k hk=>hc.same k (h.flt f (hdm f hf) k hk) (fun ⟨g,hg,hk'⟩=>hap g hg f hf k hk' hk)) (h.fact f (hdm f hf))
 ·rcases List.mem_append.1 hf with hf | hf
  ·exact hm.flt f hf k hk
  ·exact Nat.lt_of_lt_of_le (h.flt f (hdm f hf) k hk) hc.size
 ·rcases List.mem_append.1 hf with hf | hf
  ·intro q
   rcases hD f hf _ q with ⟨g,hg,hk⟩ | q
   ·exact h.sepb g (hfm g hg) b hb hk
   ·have:=h.lt hb;omega
  ·exact h.sepb f (hdm f hf) b hb
 ·rcases List.mem_append.1 hf with hf | hf
  ·rcases hD f hf k hk with q | q
   ·exact hS k q
   ·exact .inr (Nat.le_trans h.chg.size q)
  ·exact h.fown f (hdm f hf) ho k hk
 ·rcases hD f hf k hk with ⟨g,hg,q⟩ | q
  ·exact hap g hg d hd k q hk'
  ·have:=h.flt d (hdm d hd) k hk';omega
 ·rw [hc.same _ (h.pinLt hp) (fun ⟨g,hg,hk⟩=>(h.pin p hp).2.2 g (hfm g hg) hk)];exact (h.pin p hp).1
 ·rcases List.mem_append.1 hf with hf | hf
  ·intro q
   rcases hD f hf _ q with ⟨g,hg,hk⟩ | q
   ·exact (h.pin p hp).2.2 g (hfm g hg) hk
   ·have:=h.pinLt hp;omega
  ·exact (h.pin p hp).2.2 f (hdm f hf)
end
theorem Sat.perm {cx:Cx} {β:Va} {n:Nat} {H:List Bk} {F:List Fact} {w:World} (h:Sat cx β n H F w) (js:List Nat) (hn:nodupB js=true:=by rfl):Sat cx β n H (takeIx F js) w:=by
 have hm:=h.mem.take hn
 have hfm: ∀f∈takeIx F js,f∈F:=fun f hf=>by obtain ⟨j,_,q⟩:=z_bK hf;exact List.mem_of_getElem? q
 exact ⟨h.chg,h.fix,h.blk,h.mine,h.inj,h.ltb,hm.fact,hm.flt,fun f hf=>h.sepb f (hfm f hf),fun f hf=>h.fown f (hfm f hf),hm.sepf,fun p hp=>⟨(h.pin p hp).1,(h.pin p hp).2.1,fun f hf=>(h.pin p hp).2.2 f (hfm f hf)⟩,h.mrk,h.rnd⟩
def bksLt (n:Nat):List Bk->Bool
 | []=>true
 | b::r=>match Nat.blt b.id n,allLtL n b.cells with | true,true=>bksLt n r | _,_=>false
theorem z_rz {n:Nat}: ∀ {H:List Bk},bksLt n H=true-> ∀b∈H,b.id<n/\ ∀x∈b.cells,x.lt n
 | b::r,h,c,hc=>by
  simp only [bksLt] at h
  split at h
  ·rename_i h1 h2
   rcases List.mem_cons.1 hc with rfl | hc
   ·exact ⟨by simpa [Nat.blt_eq] using h1,z_hB h2⟩
   ·exact z_rz h c hc
  ·cases h
theorem Sat.lower {cx:Cx} {β:Va} {n n':Nat} {H:List Bk} {F:List Fact} {w:World} (h:Sat cx β n H F w) (hH:bksLt n' H=true:=by rfl) (hb:cx.bs.length<=n':=by first | exact Nat.zero_le _ | exact Nat.le_refl _ | assumption | exact Nat.le_of_ble_eq_true rfl):Sat cx β n' H F w:=
 h.recast (Agr.refl _ _) hb (z_rz hH)
theorem Sat.keepB {cx:Cx} {β:Va} {n:Nat} {H:List Bk} {F:List Fact} {w:World} (h:Sat cx β n H F w) {H':List Bk} (hs:List.Sublist H' H):Sat cx β n H' F w:=h.weaken hs (List.Sublist.refl _)
theorem z_sJ {α γ:Type} (f:α->List γ) (k:Nat) (hf: ∀x,(f x).length=k): ∀(l:List α) (i j:Nat) (x:α) (u:γ),l[i]?=some x->(f x)[j]?=some u->(l.flatMap f)[i*k+j]?=some u
 | y::r,0,j,x,u,h,hu=>by
  obtain rfl:y=x:=by simpa using h
  have hj:j<(f y).length:=(List.getElem?_eq_some_iff.1 hu).1
  rw [List.flatMap_cons,Nat.zero_mul,Nat.zero_add,List.getElem?_append_left hj]
  exact hu
 | y::r,i+1,j,x,u,h,hu=>by
  have h':r[i]?=some x:=by simpa using h
  rw [List.flatMap_cons,List.getElem?_append_right (by rw [hf,Nat.succ_mul];omega),hf,show (i+1)*k+j - k=i*k+j by rw [Nat.succ_mul];omega]
  exact z_sJ f k hf r i j x u h' hu
theorem Rd.elem {α:Type} {f:α->List Value} {k:Nat} (hf: ∀x,(f x).length=k) {A:Option Addr} {l:List α} {w:World} (h:Rd k A l.length (l.flatMap f) w) {ad:Addr} (hA:A=some ad) {i:Nat} (hi:i<l.length): ∀j u,(f l[i])[j]?=some u->w.cell? ((ad.add (i*k)).add j)=some u:=by
 intro j u hu
 obtain ⟨ad',q,hc⟩:=h.2 (by omega)
 rw [hA] at q
 obtain rfl:=Option.some.inj q
 rw [z_mu]
 exact hc _ _ (z_sJ f k hf l i j _ u (List.getElem?_eq_getElem hi) hu)
def Fin (w:World) (Gs:List Fact) (R:Value->List Fact->Prop) (v:Value) (w':World):Prop:=
 ∃Fs,R v Fs/\Chg (Un Gs) w w'/\Mem w' Fs/\Owns Fs/\ ∀f∈Fs,∀k,f.D k->Un Gs k\/w.heap.size<=k
def Con (P:Program) (f:FuncId) (args:Array Value) (w:World) (Gs:List Fact) (R:Value->List Fact->Prop):Prop:=
 Calls P f args w fun e w'=> ∃v,e= .returned v/\Fin w Gs R v w'
def Pu (P:Program) (f:FuncId) (args:Array Value) (w:World) (v:Value):Prop:=Con P f args w [] fun u Fs=>u=v/\Fs=[]
section
variable {cx:Cx} {β:Va} {n:Nat} {env:Env} {H:List Bk} {F:List Fact} {a:Act} {w w':World} {dst:Option Tmp} {K:KT} {k:FuncId}
theorem Un.nil:Un []=None_:=by
 funext k
 simp [Un,None_]
theorem Fin.mono {Gs:List Fact} {R R':Value->List Fact->Prop} {v:Value} (h:Fin w Gs R v w') (hr: ∀Fs,R v Fs->R' v Fs):Fin w Gs R' v w':=
 let ⟨Fs,h1,h2⟩:=h;⟨Fs,hr _ h1,h2⟩
theorem Con.mono {P:Program} {args:Array Value} {Gs:List Fact} {R R':Value->List Fact->Prop} (h:Con P k args w Gs R) (hr: ∀v Fs,R v Fs->R' v Fs):Con P k args w Gs R':=
 Calls.mono h fun _ _ ⟨v,he,hf⟩=>⟨v,he,hf.mono (hr v)⟩
theorem z_aa (js:List Nat) {A:Va->Array Value} {R:Value->List Fact->Prop} (hc: ∀β w,Sat cx β n H F w->Con cx.P k (A β) w (takeIx F js) R)
  (hk: ∀v Fs,R v Fs->put cx.N n env H (Fs++dropIx js 0 F) dst (ofValue v) K) (hown:Owns (takeIx F js):=by first | exact trivial | exact ⟨rfl,trivial⟩ | exact ⟨rfl,rfl,trivial⟩ | exact ⟨by assumption,trivial⟩):
  ∀β w,Sat cx β n H F w->Calls cx.P k (A β) w fun e w'=> ∃v,e= .returned v/\Ret cx β n env dst K v w':=fun β w hs=>
 Calls.mono (hc β w hs) fun _ _ ⟨v,he,Fs,hR,hch,hm,_,hD⟩=>⟨v,he,Ret.mk _ _ (hs.swap js hown hch hm hD) (hk v Fs hR)⟩
theorem z_oF (js:List Nat) {A:Va->Array Value} {R:Value->List Fact->Prop} (hc: ∀β w,Sat cx β n H F w->Con cx.P k (A β) w (takeIx F js) R)
  (hk: ∀v Fs,R v Fs-> ∃H' F',(∀β w,Sat cx β n H (Fs++dropIx js 0 F) w->Sat cx β n H' F' w)/\put cx.N n env H' F' dst (ofValue v) K) (hown:Owns (takeIx F js):=by first | exact trivial | exact ⟨rfl,trivial⟩ | exact ⟨rfl,rfl,trivial⟩ | exact ⟨by assumption,trivial⟩):
  ∀β w,Sat cx β n H F w->Calls cx.P k (A β) w fun e w'=> ∃v,e= .returned v/\Ret cx β n env dst K v w':=fun β w hs=>
 Calls.mono (hc β w hs) fun _ w' ⟨v,he,Fs,hR,hch,hm,_,hD⟩=>⟨v,he,by
  obtain ⟨H',F',h1,h2⟩:=hk v Fs hR
  exact Ret.mk _ _ (h1 β w' (hs.swap js hown hch hm hD)) h2⟩
theorem z_ah {A:Va->Array Value} {v:Value} (hc: ∀β w,Sat cx β n H F w->Pu cx.P k (A β) w v) (hk:put cx.N n env H F dst (ofValue v) K):
  ∀β w,Sat cx β n H F w->Calls cx.P k (A β) w fun e w'=> ∃v,e= .returned v/\Ret cx β n env dst K v w':=fun β w hs=>
 Calls.mono (hc β w hs) fun _ _ ⟨v,he,Fs,⟨h1,h2⟩,hch,hm,_,hD⟩=>⟨v,he,by
  subst h1 h2
  exact Ret.mk _ _ (hs.same (by rw [<-Un.nil];exact hch)) hk⟩
theorem z_ac {f:FuncId} {fn:Func} {c:Code} {Gs:List Fact} {R:Value->List Fact->Prop} (g:Good cx) (hf:cx.P.funcs[f]?=some fn) (hb:fn.body=some c) (hN:fn.ntmps=cx.N)
  {β:Va} (svs:List SV) (n:Nat) (H:List Bk) (F:List Fact) (hlen:Nat.ble svs.length cx.N=true) (hltB:allLt n svs=true) (hs:Sat cx β n H F w)
  (hw:cwp cx c (fnPost cx fn.results.toList (Fin w Gs R)) n (pairs 0 svs) H F) (hr:cx.rnd=none:=by rfl) (hm:β.marks=[]:=by rfl) (hp0:cx.pn=[]:=by rfl):
  Con cx.P f (svs.map (SV.val β)).toArray w Gs R:=z_bh g hf hb hN svs n H F hlen hltB hs hw hr hm hp0
theorem Sat.fin {Gs:List Fact} {R:Value->List Fact->Prop} {v:Value} (h:Sat cx β n H F w') (js:List Nat) (hR:R v (takeIx F js)) (hW:cx.W0=w:=by rfl) (hS:cx.S=Un Gs:=by rfl)
  (hn:nodupB js=true:=by rfl) (hown:Owns (takeIx F js):=by first | exact trivial | exact ⟨rfl,trivial⟩ | exact ⟨rfl,rfl,trivial⟩ | exact ⟨by assumption,trivial⟩):Fin w Gs R v w':=by
 refine ⟨_,hR,by rw [<-hW,<-hS];exact h.chg,h.mem.take hn,hown,fun f hf k hk=>?_⟩
 obtain ⟨j,_,hj⟩:=z_bK hf
 rw [<-hS,<-hW]
 exact h.fown f (List.mem_of_getElem? hj) (hown.mem f hf) k hk
theorem Mem.sat (h:Mem w F) (hW:cx.W0=w:=by rfl) (hS: ∀f∈F,f.own=true-> ∀k,f.D k->cx.S k) (hfix:cx.bs.length<=n/\ ∀i,i<cx.bs.length->β i=cx.bs.getD i 0)
  (hp:β.pins=[]:=by rfl) (hm:β.marks=[]:=by rfl) (hr:cx.rnd=none:=by rfl) (hpn:cx.pn=[]:=by rfl):Sat cx β n [] F w:=by
 have h0:Sat cx β n [] [] w:=Sat.startB hW hfix.1 hfix.2 hp hm hr hpn
 refine ⟨h0.chg,h0.fix,h0.blk,h0.mine,h0.inj,h0.ltb,h.fact,h.flt,fun _ _ b hb=>(by cases hb),fun f hf ho k hk=> .inl (hS f hf ho k hk),h.sepf,fun p hq=>?_,h0.mrk,h0.rnd⟩
 rw [hp] at hq;cases hq
def sepF (Fs:List Fact):Fact where
 own:=true
 D:=Un Fs
 p:=fun w=>(∀f∈Fs,f.p w)/\Fs.Pairwise (fun f g:Fact=> ∀k:Nat,f.D k-> ¬g.D k)
 st:=fun w w' hs h=>⟨fun f hf=>f.st w w' (fun k hk=>hs k ⟨f,hf,hk⟩) (h.1 f hf),h.2⟩
theorem Sat.unsep (h:Sat cx β n H F w) (j:Nat) {Fs:List Fact} (hj:nth F j=some (sepF Fs)):Sat cx β n H (Fs++dropIx [j] 0 F) w:=by
 have hj':F[j]?=some (sepF Fs):=by rw [<-z_aX];exact hj
 have hm:sepF Fs∈F:=List.mem_of_getElem? hj'
 have hp:=h.fact _ hm
 have hdm: ∀g∈dropIx [j] 0 F,g∈F:=fun g hg=>(z_er [j] F 0).subset hg
 have hap: ∀f∈Fs,∀d∈dropIx [j] 0 F,∀k,f.D k-> ¬d.D k:=by
  intro f hf d hd k hk
  obtain ⟨i,hi,hni⟩:=z_hH hd
  exact h.apart hj' hi (fun q=>by subst q;simp at hni) (.inl rfl) k ⟨f,hf,hk⟩
 refine ⟨h.chg,h.fix,h.blk,h.mine,h.inj,h.ltb,fun f hf=>?_,fun f hf k hk=>?_,fun f hf b hb q=>?_,fun f hf ho k hk=>?_,List.pairwise_append.2 ⟨(by refine hp.2.imp ?_;intro f g q _;exact q),h.sepf.sublist (z_er [j] F 0),fun f hf d hd _=>hap f hf d hd⟩,fun p hpp=>⟨(h.pin p hpp).1,(h.pin p hpp).2.1,fun f hf q=>?_⟩,h.mrk,h.rnd⟩
 all_goals rcases List.mem_append.1 hf with hf | hf
 ·exact hp.1 f hf
 ·exact h.fact f (hdm f hf)
 ·exact h.flt _ hm k ⟨f,hf,hk⟩
 ·exact h.flt f (hdm f hf) k hk
 ·exact h.sepb _ hm b hb ⟨f,hf,q⟩
 ·exact h.sepb f (hdm f hf) b hb q
 ·exact h.fown _ hm rfl k ⟨f,hf,hk⟩
 ·exact h.fown f (hdm f hf) ho k hk
 ·exact (h.pin p hpp).2.2 _ hm ⟨f,hf,q⟩
 ·exact (h.pin p hpp).2.2 f (hdm f hf) q
theorem Sat.sep (h:Sat cx β n H F w) (js:List Nat) (hn:nodupB js=true:=by rfl) (hown:Owns (takeIx F js):=by first | exact trivial | exact ⟨rfl,trivial⟩ | exact ⟨rfl,rfl,trivial⟩ | exact ⟨rfl,rfl,rfl,trivial⟩):Sat cx β n H (sepF (takeIx F js)::dropIx js 0 F) w:=by
 have hm:=h.mem.take hn
 refine h.swap js hown (Fs:=[sepF (takeIx F js)]) (Chg.refl _ _) ⟨fun f hf=>?_,fun f hf k hk=>?_,List.pairwise_singleton _ _⟩ (fun f hf k hk=>?_)
 ·obtain rfl:=List.mem_singleton.1 hf
  refine ⟨hm.fact,List.Pairwise.imp_of_mem (fun {f g} hf _ q=>q (.inl (hown.mem f hf))) hm.sepf⟩
 ·obtain rfl:=List.mem_singleton.1 hf
  obtain ⟨g,hg,q⟩:=hk
  exact hm.flt g hg k q
 ·obtain rfl:=List.mem_singleton.1 hf
  exact .inl hk
theorem Sat.fuse (h:Sat cx β n H F w) (js:List Nat) (g:Fact) (hg: ∀w,Mem w (takeIx F js)->g.p w) (hD: ∀k,g.D k->Un (takeIx F js) k) (hn:nodupB js=true:=by rfl) (hown:Owns (takeIx F js):=by first | exact trivial | exact ⟨rfl,trivial⟩ | exact ⟨rfl,rfl,trivial⟩ | exact ⟨rfl,rfl,rfl,trivial⟩):Sat cx β n H (g::dropIx js 0 F) w:=by
 have hm:=h.mem.take hn
 refine h.swap js hown (Fs:=[g]) (Chg.refl _ _) ⟨fun f hf=>?_,fun f hf k hk=>?_,List.pairwise_singleton _ _⟩ (fun f hf k hk=>?_)
 ·obtain rfl:=List.mem_singleton.1 hf;exact hg w hm
 ·obtain rfl:=List.mem_singleton.1 hf
  obtain ⟨d,hd,q⟩:=hD k hk
  exact hm.flt d hd k q
 ·obtain rfl:=List.mem_singleton.1 hf
  exact .inl (hD k hk)
theorem Sat.noMem (h:Sat cx β n H F w) (g:Fact) (hp:g.p w) (hD: ∀k,¬g.D k):Sat cx β n H (g::F) w:=h.add (Chg.refl _ _) g hp (fun k hk=>(hD k hk).elim)
theorem Sat.nilRow (h:Sat cx β n H F w) (e:TypeId) (size:Nat):Sat cx β n H (rowF e size (.slice none 0 0) 0 []::F) w:=
 h.noMem _ ⟨by simp,.inl ⟨rfl,rfl⟩⟩ (fun k hk=>by cases hk)
theorem Sat.ofBk {id:Nat} {ty:TypeId} {cells:List SL} (h:Sat cx β n (⟨id,ty,cells⟩::H) F w):Sat cx β n H (bkF (β id) ty (cells.map (SL.val β))::F) w:=by
 have hb:=h.blk _ List.mem_cons_self
 have h1:=h.weaken (List.sublist_cons_self _ H) (List.Sublist.refl F)
 refine h1.old (bkF (β id) ty (cells.map (SL.val β))) hb (fun k hk=>?_) (fun b hb' q=>?_) (fun _ k hk=>?_) (fun g hg _ k hk q=>?_) (fun p hp q=>?_)
 ·obtain rfl:k=β id:=hk;exact h.lt (b:=⟨id,ty,cells⟩) List.mem_cons_self
 ·exact (List.pairwise_cons.1 h.inj).1 b hb' (Eq.symm q)
 ·obtain rfl:k=β id:=hk;exact h.mine _ List.mem_cons_self
 ·obtain rfl:k=β id:=hk;exact h.sepb g hg _ List.mem_cons_self q
 ·exact h.pinBk hp List.mem_cons_self (Eq.symm q)
theorem Sat.toBk (h:Sat cx β n H F w) (j:Nat) {b:Nat} {ty:TypeId} {cs:List Value} (hj:nth F j=some (bkF b ty cs)) (id:Nat) (hid:id<n) (hb:β id=b):
  Sat cx β n (⟨id,ty,cs.map SL.v⟩::H) (dropIx [j] 0 F) w:=by
 subst hb
 have hj':F[j]?=some (bkF (β id) ty cs):=by rw [<-z_aX];exact hj
 have hm:=List.mem_of_getElem? hj'
 have hp:w.heap[β id]?=some (.cells cs.toArray ty (0,0)):=h.fact _ hm
 have h1:=h.weaken (List.Sublist.refl H) (z_er [j] F 0)
 refine ⟨h1.chg,h1.fix,fun b hb=>?_,fun b hb=>?_,List.pairwise_cons.2 ⟨fun b hb q=>?_,h1.inj⟩,fun b hb=>?_,h1.fact,h1.flt,fun f hf b hb=>?_,h1.fown,h1.sepf,h1.pin,h1.mrk,h1.rnd⟩
 ·rcases List.mem_cons.1 hb with rfl | hb
  ·rw [hp];simp [Function.comp_def,SL.val]
  ·exact h1.blk b hb
 ·rcases List.mem_cons.1 hb with rfl | hb
  ·exact h.fown _ hm rfl _ rfl
  ·exact h1.mine b hb
 ·exact h.sepb _ hm b hb q.symm
 ·rcases List.mem_cons.1 hb with rfl | hb
  ·refine ⟨hid,fun x hx=>?_⟩
   obtain ⟨y,_,rfl⟩:=List.mem_map.1 hx
   trivial
  ·exact h1.ltb b hb
 ·rcases List.mem_cons.1 hb with rfl | hb
  ·obtain ⟨i,hi,hni⟩:=z_hH hf
   intro q
   exact h.apart hj' hi (fun e=>by subst e;simp at hni) (.inl rfl) (β id) rfl q
  ·exact h1.sepb f hf b hb
end
#print axioms Sat.toBk
end Go.Proofs.YtfomhhkoamapmaaGreatDoor.Sx
namespace Go.Proofs.YtfomhhkoamapmaaGreatDoor.Sx
open Go
def Opens (P:Program) (w:World):Nat->TypeId->List Value->Prop
 | 0,_,_=>False
 | fuel+1,t,cs=>match P.underlying t with
  | some .bool=> ∃b,cs=[.bool b]
  | some (.int k)=> ∃n,cs=[.int k n]/\(Lit.int k n).wf=true
  | some .string=> ∃s,cs=[.string s]/\s.size<=maxLen
  | some (.slice e)=> ∃(A:Option Addr) (n c:Nat) (xs:List (List Value)),cs=[.slice A n c]/\n<=c/\c<=maxLen/\xs.length=n/\(A=none->n=0/\c=0)/\(∀x∈xs,x.length=P.cellsOf e)/\Rd (P.cellsOf e) A n xs.flatten w/\ ∀x∈xs,Opens P w fuel e x
  | some (.struct fs)=>cs.length=P.cellsOf t/\ ∀f∈fs.toList,Opens P w fuel f.type ((cs.drop f.offset).take (P.cellsOf f.type))
  | _=>True
theorem z_mN {k:Nat}: ∀ {xs:List (List Value)} (_: ∀x∈xs,x.length=k),xs.flatten.length=xs.length*k/\ ∀i j x u,xs[i]?=some x->x[j]?=some u->xs.flatten[i*k+j]?=some u
 | [],_=>⟨by simp,fun i j x u h=>by simp at h⟩
 | y::r,hx=>by
  obtain ⟨h1,h2⟩:=z_mN (xs:=r) (fun x h=>hx x (List.mem_cons_of_mem _ h))
  have hy:=hx y List.mem_cons_self
  refine ⟨by simp [h1,hy,Nat.succ_mul];omega,fun i j x u h hu=>?_⟩
  have hj:j<x.length:=(List.getElem?_eq_some_iff.1 hu).1
  cases i with
  | zero=>
   obtain rfl:y=x:=by simpa using h
   rw [List.flatten_cons,Nat.zero_mul,Nat.zero_add,List.getElem?_append_left hj]
   exact hu
  | succ i=>
   have h':r[i]?=some x:=by simpa using h
   rw [List.flatten_cons,List.getElem?_append_right (by rw [hy,Nat.succ_mul];omega),hy,show (i+1)*k+j - k=i*k+j by rw [Nat.succ_mul];omega]
   exact h2 i j x u h' hu
theorem opens_of {H:Type} {enc:TypeId×Value->H} {P:Program} {w:World} {base:Nat} {sp:Nat->Bool} {held:Bool}: ∀(fuel:Nat) (t:TypeId) (cs:List Value) (x:DataW H×List MemPlace),
  DataW.trod enc P w base sp held fuel t cs=some x->Opens P w fuel t cs
 | 0,_,_,_,h=>by cases h
 | fuel+1,t,cs,x,h=>by
  unfold Opens
  split
  ·rename_i ht
   unfold DataW.trod at h
   rw [ht] at h
   split at h<;>simp_all
  ·rename_i k ht
   unfold DataW.trod at h
   rw [ht] at h
   split at h<;>simp_all
  ·rename_i ht
   unfold DataW.trod at h
   rw [ht] at h
   split at h<;>simp_all
  ·rename_i e ht
   rcases DataW.trod_slice ht h with ⟨rfl,_⟩ | ⟨a,len,cap,elems,rest,m,hf,rfl,_,_,h1,h2,h3,hel,_,_⟩
   ·exact ⟨none,0,0,[],rfl,Nat.le_refl _,Nat.zero_le _,rfl,(fun _=>⟨rfl,rfl⟩),(fun _ q=>by cases q),⟨by simp,fun q=>absurd q (Nat.lt_irrefl _)⟩,fun _ q=>by cases q⟩
   ·obtain rfl:fuel=m:=by omega
    have each: ∀i,i<len-> ∃cs,w.cells? base (a.add (i*P.cellsOf e)) (P.cellsOf e)=some cs/\Opens P w fuel e cs:=by
     intro i hi
     have hq:=hel i hi
     rw [List.getElem?_eq_getElem (by omega)] at hq
     obtain ⟨cs,hc,hd⟩:=Option.bind_eq_some_iff.1 hq
     exact ⟨cs,hc,opens_of fuel e cs _ hd⟩
    obtain ⟨xs,hxl,hx⟩: ∃xs:List (List Value),xs.length=len/\ ∀i,i<len-> ∃cs,xs[i]?=some cs/\w.cells? base (a.add (i*P.cellsOf e)) (P.cellsOf e)=some cs/\Opens P w fuel e cs:=by
     revert each
     clear h hel h1 h2 h3
     intro each
     rename_i q1 q2
     clear q1 q2
     induction len with
     | zero=>exact ⟨[],rfl,fun i hi=>absurd hi (Nat.not_lt_zero _)⟩
     | succ len ih=>
      obtain ⟨xs,h1,h2⟩:=ih (fun i hi=>each i (by omega))
      obtain ⟨cs,h3,h4⟩:=each len (by omega)
      refine ⟨xs++[cs],by simp [h1],fun i hi=>?_⟩
      rcases Nat.lt_or_ge i len with hlt | hge
      ·obtain ⟨c,q1,q2⟩:=h2 i hlt
       exact ⟨c,by rw [List.getElem?_append_left (by omega)];exact q1,q2⟩
      ·obtain rfl:i=len:=by omega
       exact ⟨cs,by rw [List.getElem?_append_right (by omega)];simp [h1],h3,h4⟩
    have hlen: ∀x∈xs,x.length=P.cellsOf e:=by
     intro x hx'
     obtain ⟨i,hi⟩:=List.getElem?_of_mem hx'
     have hil:=(List.getElem?_eq_some_iff.1 hi).1
     obtain ⟨c,q1,q2,_⟩:=hx i (by omega)
     rw [hi] at q1
     obtain rfl:=Option.some.inj q1
     exact (World.cells?_some q2).2.1
    obtain ⟨f1,f2⟩:=z_mN hlen
    refine ⟨some a,len,cap,xs,rfl,h1,h2,hxl,(fun q=>by cases q),hlen,⟨by rw [f1,hxl],fun _=>⟨a,rfl,fun j u hu=>?_⟩⟩,fun x hx'=>?_⟩
    ·have hj:=(List.getElem?_eq_some_iff.1 hu).1
     rw [f1,hxl] at hj
     have hpos:0<P.cellsOf e:=Nat.pos_of_ne_zero (fun q=>by rw [q,Nat.mul_zero] at hj;exact Nat.not_lt_zero _ hj)
     have hdl:j/P.cellsOf e<len:=Nat.div_lt_of_lt_mul (by rw [Nat.mul_comm];exact hj)
     have hml:j%P.cellsOf e<P.cellsOf e:=Nat.mod_lt _ hpos
     obtain ⟨c,q1,q2,_⟩:=hx _ hdl
     have hcl:=(World.cells?_some q2).2.1
     have hcc:=(World.cells?_some q2).2.2 _ hml
     have hjj:j/P.cellsOf e*P.cellsOf e+j%P.cellsOf e=j:=by rw [Nat.mul_comm];exact Nat.div_add_mod j _
     rw [z_mu,hjj] at hcc
     have:=f2 _ (j%P.cellsOf e) c _ q1 (List.getElem?_eq_getElem (by omega))
     rw [hjj,hu] at this
     rw [hcc,List.getElem?_eq_getElem (by omega),this]
    ·obtain ⟨i,hi⟩:=List.getElem?_of_mem hx'
     have hil:=(List.getElem?_eq_some_iff.1 hi).1
     obtain ⟨c,q1,_,q3⟩:=hx i (by omega)
     rw [hi] at q1
     obtain rfl:=Option.some.inj q1
     exact q3
  ·rename_i fs ht
   obtain ⟨xs,m,hf,_,hl,hxl,hx⟩:=DataW.trod_struct ht h
   obtain rfl:fuel=m:=by omega
   refine ⟨hl,fun f hf=>?_⟩
   obtain ⟨i,hi⟩:=List.getElem?_of_mem hf
   have hil:i<fs.size:=by have:=(List.getElem?_eq_some_iff.1 hi).1;simpa using this
   have hq:=hx i f (by simpa using hi)
   rw [List.getElem?_eq_getElem (by omega)] at hq
   exact opens_of fuel f.type _ _ hq
  ·trivial
theorem z_pi {α:Type} {f:α->List Value} {p:α->Prop}: ∀ {xs:List (List Value)},(∀x∈xs,∃a,x=f a/\p a)-> ∃ys:List α,ys.length=xs.length/\xs.flatten=ys.flatMap f/\ ∀a∈ys,p a
 | [],_=>⟨[],rfl,rfl,fun _ h=>by cases h⟩
 | x::r,h=>by
  obtain ⟨a,rfl,ha⟩:=h x List.mem_cons_self
  obtain ⟨ys,h0,h1,h2⟩:=z_pi (xs:=r) (fun x hx=>h x (List.mem_cons_of_mem _ hx))
  refine ⟨a::ys,by simp [h0],by rw [List.flatten_cons,h1,List.flatMap_cons],fun b hb=>?_⟩
  rcases List.mem_cons.1 hb with rfl | hb
  ·exact ha
  ·exact h2 b hb
section
variable {P:Program} {w:World} {fuel:Nat} {t:TypeId} {cs:List Value}
theorem Opens.bool (h:Opens P w fuel t cs) (ht:P.underlying t=some .bool): ∃b,cs=[.bool b]:=by
 cases fuel with
 | zero=>exact h.elim
 | succ fuel=>simp only [Opens,ht] at h;exact h
theorem Opens.int {k:IntKind} (h:Opens P w fuel t cs) (ht:P.underlying t=some (.int k)): ∃n,cs=[.int k n]/\k.min<=n/\n<=k.max:=by
 cases fuel with
 | zero=>exact h.elim
 | succ fuel=>
  simp only [Opens,ht] at h
  obtain ⟨n,h1,h2⟩:=h
  have h3:k.min<=n/\n<=k.max:=by simpa [Lit.wf] using h2
  exact ⟨n,h1,h3⟩
theorem Opens.u8 (h:Opens P w fuel t cs) (ht:P.underlying t=some (.int .u8)): ∃b:UInt8,cs=[byte b]:=by
 obtain ⟨n,rfl,h1,h2⟩:=h.int ht
 refine ⟨UInt8.ofNat n.toNat,?_⟩
 have h3:0<=n:=h1
 have h4:n<=255:=h2
 unfold byte
 rw [UInt8.toNat_ofNat']
 congr 2
 omega
theorem Opens.str (h:Opens P w fuel t cs) (ht:P.underlying t=some .string): ∃s,cs=[.string s]/\s.size<=maxLen:=by
 cases fuel with
 | zero=>exact h.elim
 | succ fuel=>simp only [Opens,ht] at h;exact h
theorem Opens.slice {e:TypeId} (h:Opens P w fuel t cs) (ht:P.underlying t=some (.slice e)): ∃(A:Option Addr) (n c:Nat) (xs:List (List Value)) (m:Nat),cs=[.slice A n c]/\n<=c/\c<=maxLen/\xs.length=n/\(A=none->n=0/\c=0)/\(∀x∈xs,x.length=P.cellsOf e)/\Rd (P.cellsOf e) A n xs.flatten w/\ ∀x∈xs,Opens P w m e x:=by
 cases fuel with
 | zero=>exact h.elim
 | succ fuel=>
  simp only [Opens,ht] at h
  obtain ⟨A,n,c,xs,r⟩:=h
  exact ⟨A,n,c,xs,fuel,r⟩
theorem Opens.struct {fs:Array Field} (h:Opens P w fuel t cs) (ht:P.underlying t=some (.struct fs)): ∃m,cs.length=P.cellsOf t/\ ∀f∈fs.toList,Opens P w m f.type ((cs.drop f.offset).take (P.cellsOf f.type)):=by
 cases fuel with
 | zero=>exact h.elim
 | succ fuel=>simp only [Opens,ht] at h;exact ⟨fuel,h⟩
theorem Opens.structT {i:TI} (h:Opens P w fuel t cs) (ti:TiOk P t i) (hd:i.desc= .struct): ∃m,cs.length=P.cellsOf t/\ ∀(k off size:Nat) (ty:TypeId),i.fields[k]?=some (off,size)->i.ftys[k]?=some ty->Opens P w m ty ((cs.drop off).take (P.cellsOf ty)):=by
 obtain ⟨fs,h1,h2⟩:=ti.struct hd
 obtain ⟨m,h3,h4⟩:=h.struct h1
 refine ⟨m,h3,fun k off size ty hk hty=>?_⟩
 have e1:=ti.fields
 have e2:=ti.ftys
 rw [h2] at e1 e2
 rw [<-e2,List.getElem?_map] at hty
 obtain ⟨f,hf,rfl⟩:=Option.map_eq_some_iff.1 hty
 have e3:=congrArg (fun l=>l[k]?) e1
 simp only [List.getElem?_map,hf,hk,Option.map_some,Option.some.injEq,Prod.mk.injEq] at e3
 rw [<-e3.1]
 exact h4 f (List.mem_of_getElem? hf)
end
end Go.Proofs.YtfomhhkoamapmaaGreatDoor.Sx
namespace Go.Proofs.YtfomhhkoamapmaaGreatDoor.Sx
open Go
def heldF (β:Va) (H:List Bk) (F:List Fact) (ps:List (Nat×Obj)):Fact where
 own:=true
 D:=fun k=>(∃b∈H,β b.id=k)\/(∃f∈F,f.D k)\/(∃p∈ps,p.1=k)
 p:=fun w=>(∀b∈H,w.heap[β b.id]?=some (.cells (b.cells.map (SL.val β)).toArray b.ty (0,0)))/\(∀f∈F,f.p w)/\(∀p∈ps,w.heap[p.1]?=some p.2)
 st:=fun w w' hs h=>⟨fun b hb=>by rw [hs _ (.inl ⟨b,hb,rfl⟩)];exact h.1 b hb,fun f hf=>f.st w w' (fun k hk=>hs k (.inr (.inl ⟨f,hf,hk⟩))) (h.2.1 f hf),fun p hp=>by rw [hs _ (.inr (.inr ⟨p,hp,rfl⟩))];exact h.2.2 p hp⟩
def readF (Fs:List Fact):Fact where
 own:=false
 D:=Un Fs
 p:=fun w=> ∀f∈Fs,f.p w
 st:=fun w w' hs h f hf=>f.st w w' (fun k hk=>hs k ⟨f,hf,hk⟩) (h f hf)
structure Sta (β:Va) (n:Nat) (H:List Bk) (F:List Fact) (ps:List (Nat×Obj)):Prop where
 inj:H.Pairwise (fun b c=>β b.id≠β c.id)
 ltb: ∀b∈H,b.id<n/\ ∀x∈b.cells,x.lt n
 sepb: ∀f∈F,∀b∈H,¬f.D (β b.id)
 sepf:F.Pairwise (fun f g=>f.own=true\/g.own=true-> ∀k,f.D k-> ¬g.D k)
 own:Owns F
 pinf: ∀p∈ps,p.2.isCells=false/\ ∀f∈F,¬f.D p.1
def gv (X:Fact):List Fact:=match X.own with | true=>[X] | false=>[]
theorem z_xQ {X:Fact} (h:X.own=true):gv X=[X]:=by unfold gv;rw [h]
theorem z_zr {X:Fact} (h:X.own=false):gv X=[]:=by unfold gv;rw [h]
def Yc {α:Type} (P:Program) (l:Nat) (J Jx:List α->Fact->Prop) (R:Fact) (ins:List α->α->Array Value->Fact->Prop):Prop:=
 ∀(pre:List α) (x:α) (f:Fact) (w:World) (args:Array Value) (X:Fact),J pre f->Mem w [f,R,X]->ins pre x args X->
  Yld P l args w fun v w'=> ∃f',Chg (Un (f::gv X)) w w'/\f'.own=true/\f'.p w'/\(∀k,f'.D k->(Un (f::gv X) k\/w.heap.size<=k)/\k<w'.heap.size)/\
   ((v= .bool true/\J (pre++[x]) f')\/(v= .bool false/\Jx (pre++[x]) f'))
abbrev rcx (cx:Cx) (w:World) (S:Nat->Prop) (l:Nat) (bs:List Nat) (pn:List (Nat×Obj)):Cx:=⟨cx.P,w,S,cx.N,cx.tt,cx.fns,bs,some l,pn⟩
theorem z_dM {cx:Cx} (g:Good cx) {w:World} {S:Nat->Prop} {l:Nat} {bs:List Nat} {pn:List (Nat×Obj)}:Good (rcx cx w S l bs pn):=⟨g.ok,g.fn,g.mixed⟩
def bindP (N:Nat):List Tmp->List Value->Env->Option Env
 | [],[],e=>some e
 | t::ts,v::vs,e=>match Nat.blt t N with | true=>bindP N ts vs ((t,ofValue v)::e) | false=>none
 | _,_,_=>none
def norm (k:KT):Exit->KT
 | .normal=>k
 | _=>fun _ _ _ _=>False
def jumpOf:Exit->Option Code
 | .ret=>some .ret
 | .exit id=>some (.exit id)
 | _=>none
section
variable {cx:Cx} {β:Va} {n:Nat} {env:Env} {H:List Bk} {F:List Fact} {a:Act} {w w':World}
theorem z_sH {N:Nat}: ∀(ts:List Tmp) (vs:List Value) (e e':Env) (tmps:Array Value),bindP N ts vs e=some e'->tmps.size=N->(∀t s,get e t=some s->tmps[t]?=some (s.val β))->(∀t s,get e t=some s->s.lt n)->
  (((ts.zip vs).foldl (fun t (q:Tmp×Value)=>t.setIfInBounds q.1 q.2) tmps).size=N)/\(∀t s,get e' t=some s->((ts.zip vs).foldl (fun t (q:Tmp×Value)=>t.setIfInBounds q.1 q.2) tmps)[t]?=some (s.val β))/\(∀t s,get e' t=some s->s.lt n)/\ts.length=vs.length
 | [],[],e,e',tmps,h,hN,hag,hlt=>by
  simp only [bindP,Option.some.injEq] at h
  subst h
  exact ⟨hN,hag,hlt,rfl⟩
 | t::ts,v::vs,e,e',tmps,h,hN,hag,hlt=>by
  simp only [bindP] at h
  cases hb:Nat.blt t N with
  | false=>rw [hb] at h;cases h
  | true=>
   rw [hb] at h
   have ht:t<N:=by simpa [Nat.blt_eq] using hb
   have:=z_sH ts vs _ e' (tmps.setIfInBounds t v) h (by simp [hN]) ?_ ?_
   ·exact ⟨this.1,this.2.1,this.2.2.1,by simp [this.2.2.2]⟩
   ·intro u s hu
    by_cases htu:t=u
    ·subst htu
     rw [z_dW] at hu
     obtain rfl:=Option.some.inj hu
     rw [Array.getElem?_setIfInBounds]
     simp [hN,ht,z_et]
    ·rw [z_cq _ _ htu] at hu
     rw [Array.getElem?_setIfInBounds_ne htu]
     exact hag u s hu
   ·intro u s hu
    by_cases htu:t=u
    ·subst htu
     rw [z_dW] at hu
     obtain rfl:=Option.some.inj hu
     exact z_fH _ _
    ·rw [z_cq _ _ htu] at hu
     exact hlt u s hu
 | [],_::_,_,_,_,h,_,_,_=>by cases h
 | _::_,[],_,_,_,h,_,_,_=>by cases h
theorem Mem.three {f R X:Fact} {w:World} (hf:f.own=true) (_hR:R.own=false) (h:Mem w [f,R,X]):f.p w/\R.p w/\X.p w/\(∀k,f.D k->k<w.heap.size)/\(∀k,R.D k->k<w.heap.size)/\(∀k,X.D k->k<w.heap.size)/\(∀k,f.D k-> ¬R.D k)/\(∀k,f.D k-> ¬X.D k)/\(X.own=true-> ∀k,R.D k-> ¬X.D k):=by
 have h1:=List.pairwise_cons.1 h.sepf
 have h2:=List.pairwise_cons.1 h1.2
 exact ⟨h.fact f (by simp),h.fact R (by simp),h.fact X (by simp),h.flt f (by simp),h.flt R (by simp),h.flt X (by simp),h1.1 R (by simp) (.inl hf),h1.1 X (by simp) (.inl hf),fun q=>h2.1 X (by simp) (.inr q)⟩
theorem z_vw {Fr:List Fact} {X:Fact} {ps:List (Nat×Obj)} (hst:Sta β n H F ps) (hFr: ∀g∈Fr,g.own=false)
  (hm:Mem w [heldF β H F ps,readF Fr,X]) {n0:Nat} (hn:n0<=n) {bs:List Nat} (hbs:bs.length=n0) (hbi: ∀i,i<n0->β i=bs.getD i 0) {l:Nat} {r:Loop} (hl:(l,Obj.loop r)∈ps) (hps:β.pins=ps) (hmk:β.marks=[]):
  Sat (rcx cx w (Un (heldF β H F ps::gv X)) l bs ps) β n H (X::F++Fr) w:=by
 obtain ⟨h1,h2,h3,h4,h5,h6,h7,h8,h9⟩:=hm.three rfl rfl
 have inS: ∀k,(heldF β H F ps).D k->Un (heldF β H F ps::gv X) k:=fun k hk=>⟨_,List.mem_cons_self,hk⟩
 have hmemF: ∀f∈X::F++Fr,f=X\/f∈F\/f∈Fr:=by
  intro f hf
  rcases List.mem_append.1 hf with hf | hf
  ·rcases List.mem_cons.1 hf with rfl | hf
   ·exact .inl rfl
   ·exact .inr (.inl hf)
  ·exact .inr (.inr hf)
 refine ⟨Chg.refl _ _,⟨by show bs.length<=n;omega,fun i hi=>hbi i (by rw [<-hbs];exact hi)⟩,h1.1,fun b hb=> .inl (inS _ (.inl ⟨b,hb,rfl⟩)),hst.inj,hst.ltb,fun f hf=>?_,fun f hf k hk=>?_,fun f hf b hb q=>?_,fun f hf ho k hk=>?_,?_,fun p hp=>?_,⟨by rw [hmk];exact List.nodup_nil,fun q hq=>by rw [hmk] at hq;cases hq⟩,⟨fun p hp=>by rw [hps];exact hp,fun l' hl'=>⟨hmk,r,by rw [hps];obtain rfl:l=l':=Option.some.inj hl';exact hl⟩⟩⟩
 ·rcases hmemF f hf with rfl | hf | hf
  ·exact h3
  ·exact h1.2.1 f hf
  ·exact h2 f hf
 ·rcases hmemF f hf with rfl | hf | hf
  ·exact h6 k hk
  ·exact h4 k (.inr (.inl ⟨f,hf,hk⟩))
  ·exact h5 k ⟨f,hf,hk⟩
 ·rcases hmemF f hf with rfl | hf | hf
  ·exact h8 _ (.inl ⟨b,hb,rfl⟩) q
  ·exact hst.sepb f hf b hb q
  ·exact h7 _ (.inl ⟨b,hb,rfl⟩) ⟨f,hf,q⟩
 ·rcases hmemF f hf with rfl | hf | hf
  ·exact .inl ⟨f,List.mem_cons_of_mem _ (by rw [z_xQ ho];exact List.mem_singleton.2 rfl),hk⟩
  ·exact .inl (inS _ (.inr (.inl ⟨f,hf,hk⟩)))
  ·rw [hFr f hf] at ho;cases ho
 ·refine List.pairwise_append.2 ⟨List.pairwise_cons.2 ⟨fun g hg _ k hk hk'=>h8 k (.inr (.inl ⟨g,hg,hk'⟩)) hk,hst.sepf⟩,?_,fun f hf g hg ho k hk hk'=>?_⟩
  ·refine List.pairwise_iff_getElem.2 fun i j hi hj _ ho=>?_
   rw [hFr _ (List.getElem_mem hi),hFr _ (List.getElem_mem hj)] at ho
   rcases ho with q | q<;>cases q
  ·rcases List.mem_cons.1 hf with rfl | hf
   ·rw [hFr g hg] at ho
    exact h9 (ho.resolve_right (by decide)) k ⟨g,hg,hk'⟩ hk
   ·exact h7 k (.inr (.inl ⟨f,hf,hk⟩)) ⟨g,hg,hk'⟩
 ·rw [hps] at hp
  refine ⟨h1.2.2 p hp,(hst.pinf p hp).1,fun f hf q=>?_⟩
  rcases hmemF f hf with rfl | hf | hf
  ·exact h8 _ (.inr (.inr ⟨p,hp,rfl⟩)) q
  ·exact (hst.pinf p hp).2 f hf q
  ·exact h7 _ (.inr (.inr ⟨p,hp,rfl⟩)) ⟨f,hf,q⟩
theorem Sat.repin {W0:World} {S:Nat->Prop} {l:Nat} {bs:List Nat} {o o':Obj} {P0:List (Nat×Obj)} (h:Sat (rcx cx W0 S l bs ((l,o)::P0)) β n H F w) (ho':o'.isCells=false) (hr: ∃r,o'=Obj.loop r) (hP: ∀p∈P0,p.1≠l) (hS:S l):
  Sat (rcx cx W0 S l bs ((l,o')::P0)) ⟨β.b,(l,o')::P0,[]⟩ n H F (w.putObj l o'):=by
 have hlp:(l,o)∈β.pins:=h.rnd.1 _ List.mem_cons_self
 have hlf: ∀f∈F,¬f.D l:=(h.pin _ hlp).2.2
 have hll:l<w.heap.size:=h.pinLt hlp
 have hoth: ∀k,k≠l->(w.putObj l o').heap[k]?=w.heap[k]?:=fun k hk=>World.putObj_heap_other hk
 refine ⟨⟨h.chg.os,h.chg.tape,h.chg.output,by rw [World.putObj_size];exact h.chg.size,fun k hk hs=>?_⟩,h.fix,fun b hb=>?_,h.mine,h.inj,h.ltb,fun f hf=>?_,fun f hf k hk=>?_,h.sepb,h.fown,h.sepf,fun p hp=>?_,⟨List.nodup_nil,fun q hq=>by cases hq⟩,⟨fun p hp=>hp,fun l' hl'=>⟨rfl,?_⟩⟩⟩
 ·rw [hoth k (fun q=>hs (q▸hS))];exact h.chg.same k hk hs
 ·rw [hoth _ (h.pinBk hlp hb)];exact h.blk b hb
 ·exact f.st _ _ (fun k hk=>hoth k (fun q=>by subst q;exact hlf f hf hk)) (h.fact f hf)
 ·rw [World.putObj_size];exact h.flt f hf k hk
 ·rcases List.mem_cons.1 hp with rfl | hp
  ·exact ⟨World.putObj_heap_same hll,ho',hlf⟩
  ·have:=h.pin p (h.rnd.1 p (List.mem_cons_of_mem _ hp))
   exact ⟨by rw [hoth _ (hP p hp)];exact this.1,this.2⟩
 ·obtain ⟨r,rfl⟩:=hr
  obtain rfl:l=l':=Option.some.inj hl'
  exact ⟨r,List.mem_cons_self⟩
theorem z_rB {W0:World} {S:Nat->Prop} {l:Nat} {bs:List Nat} {o o':Obj} {P0:List (Nat×Obj)} (h:Sat (rcx cx W0 S l bs ((l,o)::P0)) β n H F w) (hown:Owns F) (ho: ∃r,o'=Obj.loop r) (hP: ∀p∈P0,p.1≠l) (hS: ∀p∈(l,o)::P0,S p.1):
  Chg S W0 (w.putObj l o')/\(heldF β H F ((l,o')::P0)).p (w.putObj l o')/\(∀k,(heldF β H F ((l,o')::P0)).D k->(S k\/W0.heap.size<=k)/\k<(w.putObj l o').heap.size)/\Sta β n H F ((l,o')::P0):=by
 have h':=h.repin (by obtain ⟨r,rfl⟩:=ho;rfl) ho hP (hS _ List.mem_cons_self)
 refine ⟨h'.chg,⟨h'.blk,h'.fact,fun p hp=>(h'.pin p hp).1⟩,fun k hk=>?_,⟨h.inj,h.ltb,h.sepb,h.sepf,hown,fun p hp=>(h'.pin p hp).2⟩⟩
 rcases hk with ⟨b,hb,rfl⟩ | ⟨f,hf,hk⟩ | ⟨p,hp,rfl⟩
 ·exact ⟨h'.mine b hb,h'.lt hb⟩
 ·exact ⟨h'.fown f hf (hown.mem f hf) k hk,h'.flt f hf k hk⟩
 ·refine ⟨.inl ?_,h'.pinLt hp⟩
  rcases List.mem_cons.1 hp with rfl | hp
  ·exact hS (l,o) List.mem_cons_self
  ·exact hS p (List.mem_cons_of_mem _ hp)
theorem z_qM {β0 β':Va} {H0 Hn:List Bk} {Gi Ri F0 Fr Fn Fs:List Fact} {w1 w2:World} {l:Nat} {o o' o2:Obj} {P0:List (Nat×Obj)} {mks:List Nat} {n0:Nat}
  (hs:Sat cx β0 n H0 (Gi++(Ri++(F0++Fr))) w) (hGi:Owns Gi) (hF0:Owns F0)
  (hc1:Chg None_ w w1) (hl:w.heap.size<=l) (hP0: ∀p∈P0,w1.heap[p.1]?=some p.2/\p.2.isCells=false/\p.1≠l/\(p∈β0.pins\/w.heap.size<=p.1)) (hPb: ∀p∈β0.pins,p∈P0)
  (hc2:Chg (Un (heldF β0 H0 F0 ((l,o)::P0)::Gi)) w1 w2) (hm:Mem w2 (heldF β' Hn Fn ((l,o')::P0)::Fs))
  (hD: ∀f∈heldF β' Hn Fn ((l,o')::P0)::Fs,∀k,f.D k->Un (heldF β0 H0 F0 ((l,o)::P0)::Gi) k\/w1.heap.size<=k) (hst:Sta β' n Hn Fn ((l,o')::P0))
  (hn0:cx.bs.length<=n0) (hag: ∀i,i<n0->β' i=β0 i) (hmk:mks.Nodup/\ ∀r∈mks,(r,Obj.deferred (some []))∈P0/\cx.W0.heap.size<=r) (hmr: ∀l',cx.rnd=some l'->mks=[]):
  Sat cx ⟨β'.b,P0,mks⟩ n Hn (Fs++(Fn++Fr)) (w2.putObj l o2):=by
 obtain ⟨sG,sRest,cG⟩:=List.pairwise_append.1 hs.sepf
 obtain ⟨_,sRest2,_⟩:=List.pairwise_append.1 sRest
 obtain ⟨sF0,sFr,cF0⟩:=List.pairwise_append.1 sRest2
 have mG: ∀g∈Gi,g∈Gi++(Ri++(F0++Fr)):=fun g hg=>by simp [hg]
 have mF0: ∀g∈F0,g∈Gi++(Ri++(F0++Fr)):=fun g hg=>by simp [hg]
 have mFr: ∀g∈Fr,g∈Gi++(Ri++(F0++Fr)):=fun g hg=>by simp [hg]
 have hfp:=hm.fact _ List.mem_cons_self
 obtain ⟨hfs,hfd⟩:=List.pairwise_cons.1 hm.sepf
 have hoth: ∀k,k≠l->(w2.putObj l o2).heap[k]?=w2.heap[k]?:=fun k hk=>World.putObj_heap_other hk
 have hsz:w.heap.size<=w1.heap.size:=hc1.size
 have D1: ∀k,Un (heldF β0 H0 F0 ((l,o)::P0)::Gi) k->(∃b∈H0,β0 b.id=k)\/(∃g∈F0,g.D k)\/k=l\/(∃p∈P0,p.1=k)\/(∃g∈Gi,g.D k):=by
  rintro k ⟨g,hg,hk⟩
  rcases List.mem_cons.1 hg with rfl | hg
  ·rcases hk with q | q | ⟨p,hp,q⟩
   ·exact .inl q
   ·exact .inr (.inl q)
   ·rcases List.mem_cons.1 hp with rfl | hp
    ·exact .inr (.inr (.inl q.symm))
    ·exact .inr (.inr (.inr (.inl ⟨p,hp,q⟩)))
  ·exact .inr (.inr (.inr (.inr ⟨g,hg,hk⟩)))
 have D2: ∀k,Un (heldF β0 H0 F0 ((l,o)::P0)::Gi) k\/w1.heap.size<=k->k≠l->(∀p∈P0,p.1≠k)->(cx.S k\/cx.W0.heap.size<=k)/\ ∀g∈Fr,¬g.D k:=by
  intro k hk hkl hkp
  rcases hk with hk | hk
  ·rcases D1 k hk with ⟨b,hb,rfl⟩ | ⟨g,hg,q⟩ | q | ⟨p,hp,q⟩ | ⟨g,hg,q⟩
   ·exact ⟨hs.mine b hb,fun d hd=>hs.sepb d (mFr d hd) b hb⟩
   ·exact ⟨hs.fown g (mF0 g hg) (hF0.mem g hg) k q,fun d hd=>cF0 g hg d hd (.inl (hF0.mem g hg)) k q⟩
   ·exact (hkl q).elim
   ·exact (hkp p hp q).elim
   ·exact ⟨hs.fown g (mG g hg) (hGi.mem g hg) k q,fun d hd=>cG g hg d (by simp [hd]) (.inl (hGi.mem g hg)) k q⟩
  ·exact ⟨.inr (Nat.le_trans hs.chg.size (Nat.le_trans hsz hk)),fun d hd q=>by have:=hs.flt d (mFr d hd) k q;omega⟩
 have pinO: ∀p∈((l,o')::P0),w2.heap[p.1]?=some p.2/\p.2.isCells=false:=fun p hp=>⟨hfp.2.2 p hp,(hst.pinf p hp).1⟩
 have bkNP: ∀b∈Hn,β' b.id≠l/\ ∀p∈P0,p.1≠β' b.id:=by
  intro b hb
  have h1:=hfp.1 b hb
  have key: ∀p∈((l,o')::P0),p.1≠β' b.id:=by
   intro p hp q
   have h2:=pinO p hp
   rw [q,h1] at h2
   have h3:=h2.2
   rw [<-Option.some.inj h2.1] at h3
   cases h3
  exact ⟨fun q=>key (l,o') List.mem_cons_self q.symm,fun p hp=>key p (List.mem_cons_of_mem _ hp)⟩
 have fnNP: ∀f∈Fn,∀k,f.D k->k≠l/\ ∀p∈P0,p.1≠k:=fun f hf k hk=>⟨fun q=>(hst.pinf (l,o') List.mem_cons_self).2 f hf (q▸hk),fun p hp q=>(hst.pinf p (List.mem_cons_of_mem _ hp)).2 f hf (q▸hk)⟩
 have fsNP: ∀f∈Fs,∀k,f.D k->k≠l/\ ∀p∈P0,p.1≠k:=fun f hf k hk=>⟨fun q=>hfs f hf (.inl rfl) k (.inr (.inr ⟨(l,o'),List.mem_cons_self,q.symm⟩)) hk,fun p hp q=>hfs f hf (.inl rfl) k (.inr (.inr ⟨p,List.mem_cons_of_mem _ hp,q⟩)) hk⟩
 have bkD: ∀b∈Hn,(cx.S (β' b.id)\/cx.W0.heap.size<=β' b.id)/\ ∀g∈Fr,¬g.D (β' b.id):=fun b hb=>D2 _ (hD _ List.mem_cons_self _ (.inl ⟨b,hb,rfl⟩)) (bkNP b hb).1 (bkNP b hb).2
 have fnD: ∀f∈Fn,∀k,f.D k->(cx.S k\/cx.W0.heap.size<=k)/\ ∀g∈Fr,¬g.D k:=fun f hf k hk=>D2 _ (hD _ List.mem_cons_self _ (.inr (.inl ⟨f,hf,hk⟩))) (fnNP f hf k hk).1 (fnNP f hf k hk).2
 have fsD: ∀f∈Fs,∀k,f.D k->(cx.S k\/cx.W0.heap.size<=k)/\ ∀g∈Fr,¬g.D k:=fun f hf k hk=>D2 _ (hD _ (List.mem_cons_of_mem _ hf) _ hk) (fsNP f hf k hk).1 (fsNP f hf k hk).2
 have frl: ∀g∈Fr,∀k,g.D k->k<w.heap.size:=fun g hg=>hs.flt g (mFr g hg)
 have frNU: ∀g∈Fr,∀k,g.D k-> ¬Un (heldF β0 H0 F0 ((l,o)::P0)::Gi) k:=by
  intro g hg k hk q
  by_cases hkl:k=l
  ·have:=frl g hg k hk;omega
  by_cases hkp: ∀p∈P0,p.1≠k
  ·exact (D2 k (.inl q) hkl hkp).2 g hg hk
  ·simp only [Classical.not_forall,Decidable.not_not] at hkp
   obtain ⟨p,hp,rfl⟩:=hkp
   rcases (hP0 p hp).2.2.2 with q2 | q2
   ·exact (hs.pin p q2).2.2 g (mFr g hg) hk
   ·have:=frl g hg _ hk;omega
 have cases3: ∀f∈Fs++(Fn++Fr),f∈Fs\/f∈Fn\/f∈Fr:=fun f hf=>by
  rcases List.mem_append.1 hf with q | q
  ·exact .inl q
  ·exact .inr (List.mem_append.1 q)
 refine ⟨?_,⟨hs.fix.1,fun i hi=>(hag i (Nat.lt_of_lt_of_le hi hn0)).trans (hs.fix.2 i hi)⟩,fun b hb=>?_,fun b hb=>(bkD b hb).1,hst.inj,hst.ltb,fun f hf=>?_,fun f hf k hk=>?_,fun f hf b hb q=>?_,fun f hf ho k hk=>?_,?_,fun p hp=>⟨?_,(hP0 p hp).2.1,fun f hf q=>?_⟩,hmk,
  ⟨fun p hp=>hPb p (hs.rnd.1 p hp),fun l' hl'=>⟨hmr l' hl',by obtain ⟨r,hr⟩:=(hs.rnd.2 l' hl').2;exact ⟨r,hPb _ hr⟩⟩⟩⟩
 ·refine ⟨hc2.os.trans (hc1.os.trans hs.chg.os),hc2.tape.trans (hc1.tape.trans hs.chg.tape),hc2.output.trans (hc1.output.trans hs.chg.output),?_,fun k hk hns=>?_⟩
  ·rw [World.putObj_size];exact Nat.le_trans hs.chg.size (Nat.le_trans hsz hc2.size)
  ·have hkw:k<w.heap.size:=Nat.lt_of_lt_of_le hk hs.chg.size
   have hkl:k≠l:=by omega
   rw [hoth k hkl]
   have e1:w1.heap[k]?=cx.W0.heap[k]?:=(hc1.same k hkw (fun q=>q)).trans (hs.chg.same k hk hns)
   by_cases hU:Un (heldF β0 H0 F0 ((l,o)::P0)::Gi) k
   ·by_cases hkp: ∀p∈P0,p.1≠k
    ·rcases (D2 k (.inl hU) hkl hkp).1 with q | q
     ·exact (hns q).elim
     ·omega
    ·simp only [Classical.not_forall,Decidable.not_not] at hkp
     obtain ⟨p,hp,rfl⟩:=hkp
     rw [(pinO p (List.mem_cons_of_mem _ hp)).1,<-e1,(hP0 p hp).1]
   ·rw [hc2.same k (by omega) hU,e1]
 ·rw [hoth _ (bkNP b hb).1];exact hfp.1 b hb
 ·rcases cases3 f hf with hf | hf | hf
  ·exact f.st _ _ (fun k hk=>hoth k (fsNP f hf k hk).1) (hm.fact f (List.mem_cons_of_mem _ hf))
  ·exact f.st _ _ (fun k hk=>hoth k (fnNP f hf k hk).1) (hfp.2.1 f hf)
  ·refine f.st _ _ (fun k hk=>?_) (hs.fact f (mFr f hf))
   have:=frl f hf k hk
   rw [hoth k (by omega),hc2.same k (by omega) (frNU f hf k hk),hc1.same k this (fun q=>q)]
 ·rw [World.putObj_size]
  rcases cases3 f hf with hf | hf | hf
  ·exact hm.flt f (List.mem_cons_of_mem _ hf) k hk
  ·exact hm.flt _ List.mem_cons_self k (.inr (.inl ⟨f,hf,hk⟩))
  ·exact Nat.lt_of_lt_of_le (frl f hf k hk) (Nat.le_trans hsz hc2.size)
 ·rcases cases3 f hf with hf | hf | hf
  ·exact hfs f hf (.inl rfl) _ (.inl ⟨b,hb,rfl⟩) q
  ·exact hst.sepb f hf b hb q
  ·exact (bkD b hb).2 f hf q
 ·rcases cases3 f hf with hf | hf | hf
  ·exact (fsD f hf k hk).1
  ·exact (fnD f hf k hk).1
  ·exact hs.fown f (mFr f hf) ho k hk
 ·refine List.pairwise_append.2 ⟨hfd,List.pairwise_append.2 ⟨hst.sepf,sFr,fun f hf g hg _ k hk=>(fnD f hf k hk).2 g hg⟩,fun f hf g hg ho k hk hk'=>?_⟩
  rcases List.mem_append.1 hg with hg | hg
  ·exact hfs f hf (.inl rfl) k (.inr (.inl ⟨g,hg,hk'⟩)) hk
  ·exact (fsD f hf k hk).2 g hg hk'
 ·rw [hoth _ (hP0 p hp).2.2.1];exact (pinO p (List.mem_cons_of_mem _ hp)).1
 ·rcases cases3 f hf with hf | hf | hf
  ·exact (fsNP f hf _ q).2 p hp rfl
  ·exact (fnNP f hf _ q).2 p hp rfl
  ·rcases (hP0 p hp).2.2.2 with q2 | q2
   ·exact (hs.pin p q2).2.2 f (mFr f hf) q
   ·have:=frl f hf _ q;omega
theorem SL.val_eqb {β β':Va} (h:β.b=β'.b) (x:SL):x.val β=x.val β':=by
 cases x with
 | v x=>rfl
 | p id o=>simp only [SL.val,h]
theorem SV.val_eqb {β β':Va} (h:β.b=β'.b) (s:SV):s.val β=s.val β':=by
 have:SL.val β=SL.val β':=funext (SL.val_eqb h)
 cases s<;>simp only [SV.val,this]
theorem z_rD {P:Program} {k:FuncId} (hcall:callable P k=true) (args:Array Value) (w:World):(callFunc k args).run P w= .ok (.enter k args) w:=by
 unfold callable at hcall
 cases hq:P.funcs[k]? with
 | none=>rw [hq] at hcall;cases hcall
 | some fn=>
  rw [hq] at hcall
  simp only [Bool.and_eq_true,Bool.not_eq_true'] at hcall
  obtain ⟨hb,hn⟩:=hcall
  have hn' : ¬ fn.name = "runtime.NumGoroutine" := by simpa using hn
  have hb': ¬fn.body=none:=by intro q;rw [q] at hb;cases hb
  simp [callFunc,hq,hn',hb']
theorem z_tW (h:Sat cx β n H F w) (fn:FuncId) (tmps:Array Value) (ps:Array Tmp) (assign body:Code):
  ∃(l:Nat) (mk:List Nat) (w1:World) (d:Nat) (newp:List (Nat×Obj)),(Instr.enterLoop fn tmps ps assign body cx.rnd).run cx.P w= .ok (l,mk.map (fun r=> {target:= .collected r,args:= #[]})) w1/\Chg None_ w w1/\w.heap.size<=l/\
   w1.heap[l]?=some (.loop {state:= .ready,pending:=none,fn,tmps,params:=ps,assign,body,defers:=d})/\(∀p∈newp,w1.heap[p.1]?=some p.2/\p.2.isCells=false/\p.1≠l/\w.heap.size<=p.1)/\
   mk.Nodup/\(∀r∈mk,(r,Obj.deferred (some []))∈newp/\w.heap.size<=r)/\(∀l',cx.rnd=some l'->mk=[]):=by
 cases hr:cx.rnd with
 | none=>
  refine ⟨w.heap.size+1,[w.heap.size],_,w.heap.size,[(w.heap.size,.deferred (some []))],run_enterLoop_outer fn tmps ps assign body,?_,by omega,?_,fun p hp=>?_,by simp,fun r hr'=>?_,fun l' hl'=>by cases hl'⟩
  ·exact Chg.trans (S:=None_) (T:=None_) (U:=None_) (Chg.alloc w _) (Chg.alloc _ _) (fun _ _ q=>q) (fun _ _ q=>q)
  ·have:=World.alloc_heap_new (w.alloc (.deferred (some []))) (.loop {state:= .ready,pending:=none,fn,tmps,params:=ps,assign,body,defers:=w.heap.size});rwa [World.size_alloc] at this
  ·obtain rfl:=List.mem_singleton.1 hp
   exact ⟨(RowKit.Below.heap_alloc _ _ _ (by simp)).trans (World.alloc_heap_new w _),rfl,by simp,Nat.le_refl _⟩
  ·obtain rfl:=List.mem_singleton.1 hr'
   exact ⟨List.mem_singleton.2 rfl,Nat.le_refl _⟩
 | some l0=>
  obtain ⟨r0,hr0⟩:=(h.rnd.2 l0 hr).2
  refine ⟨w.heap.size,[],_,r0.defers,[],run_enterLoop_inner (h.pin _ hr0).1 fn tmps ps assign body,Chg.alloc w _,Nat.le_refl _,World.alloc_heap_new w _,(fun p hp=>by cases hp),List.nodup_nil,(fun r hr'=>by cases hr'),fun _ _=>rfl⟩
def RoundQ {α ι κ:Type} (cx:Cx) (n':Nat) (Pre:List α->ι->Prop) (HH:ι->List Bk) (FF:ι->List Fact) (Stp:Exit->List α->κ->Prop) (HX:κ->List Bk) (FX:κ->List Fact) (pre:List α):Exit->KT
 | .normal=>fun m env H F=> ∃j,Pre pre j/\Ent cx m env H F n' [] (HH j) (FF j)
 | .ret=>fun m env H F=> ∃j,Stp .ret pre j/\Ent cx m env H F n' [] (HX j) (FX j)
 | .exit id=>fun m env H F=> ∃j,Stp (.exit id) pre j/\Ent cx m env H F n' [] (HX j) (FX j)
 | _=>fun _ _ _ _=>False
theorem z_sb {α ι κ:Type} (g:Good cx) {fo:Operand} {ps:Array Tmp} {assign body:Code} {Q:Exit->KT} {k:FuncId} {cv:List Value} {sv:SV}
  (hsv:ev env fo=some sv) (hfn:fnOf sv=some (k,[],cv.map SL.v)) (hcall:callable cx.P k=true) (n':Nat) (hn':n<=n')
  (Pre:List α->ι->Prop) (HH:ι->List Bk) (FF:ι->List Fact) (hFF: ∀i,Owns (FF i))
  (Stp:Exit->List α->κ->Prop) (HX:κ->List Bk) (FX:κ->List Fact) (hFX: ∀j,Owns (FX j))
  (Gi Ri Fr:List Fact) (hGi:Owns Gi) (hFr: ∀g∈Fr,g.own=false)
  (i0:ι) (h0:Pre [] i0) (hent: ∀β w,Sat cx β n H F w-> ∃β',Agr n β β'/\Sat cx β' n' (HH i0) (Gi++(Ri++(FF i0++Fr))) w)
  (ins:List α->α->Array Value->Fact->Prop) (Done Stopd:List α->List Fact->Prop)
  (hit: ∀(l:Nat) (w:World) (f0 R:Fact) (J Jx:List α->Fact->Prop),J [] f0->(∀pre f,J pre f->f.own=true)->R.own=false->Yc cx.P l J Jx R ins->(∀pre f,J pre f-> ∃i,Pre pre i)->Mem w (f0::R::(Gi++Ri))->
   Con cx.P k (#[Value.func (.yield l) #[] #[]]++cv.toArray) w (f0::Gi) (fun _ Fs=> ∃f Fs',Fs=f::Fs'/\((∃xs,J xs f/\Done xs Fs')\/(∃pre,Jx pre f/\Stopd pre Fs'))))
  (hround: ∀(i:ι) (pre:List α) (x:α) (args:Array Value) (X:Fact) (W:World) (S:Nat->Prop) (l:Nat) (bs:List Nat) (pn pn':List (Nat×Obj)),bs.length<=n'->Pre pre i->ins pre x args X-> ∃er,bindP cx.N ps.toList args.toList env=some er/\
   cwp (rcx cx W S l bs pn) assign (norm (cwp (rcx cx W S l bs pn') body (RoundQ (rcx cx W S l bs pn') n' Pre HH FF Stp HX FX (pre++[x])))) n' er (HH i) (X::FF i++Fr))
  (hdone: ∀xs i Fs,Pre xs i->Done xs Fs->Q .normal n' env (HH i) (Fs++(FF i++Fr)))
  (hstop: ∀e pre j Fs,Stp e pre j->Stopd pre Fs->Q e n' env (HX j) (Fs++(FX j++Fr))):
  Tri cx (.rangeFunc fo ps assign body) Q n env H F:=by
 refine ⟨fun β a w hi=>?_⟩
 obtain ⟨β0,hag0,hs0⟩:=hent β w hi.sat
 obtain ⟨hev,_⟩:=hi.ev hsv
 have hval:a.eval fo= .func (.func k) #[] cv.toArray:=by
  rw [hev]
  unfold fnOf at hfn
  split at hfn
  ·simp only [Option.some.injEq,Prod.mk.injEq,List.map_eq_nil_iff,Array.toList_eq_nil_iff] at hfn
   obtain ⟨rfl,rfl,h3⟩:=hfn
   have:_=cv:=(List.map_inj_right (f:=SL.v) (fun x y q=>by injection q)).1 h3
   simp only [SV.val,SL.val,<-this]
  ·simp only [Option.some.injEq,Prod.mk.injEq] at hfn
   obtain ⟨rfl,rfl,rfl⟩:=hfn
   simp [SV.val,SL.val,Function.comp_def]
  ·cases hfn
 refine wpIn_rangeFunc fun fn _=>?_
 rw [cx.fence_round]
 obtain ⟨l,mk,w1,dd,newp,hrun,hc1,hll,hrec,hnewp,hmk1,hmk2,hmk3⟩:=z_tW hs0 fn a.tmps ps assign body
 obtain ⟨rec,hrecD⟩: ∃rec:LoopState->Option Code->Loop,rec=fun st pe=> {state:=st,pending:=pe,fn,tmps:=a.tmps,params:=ps,assign,body,defers:=dd}:=⟨_,rfl⟩
 have hrec':w1.heap[l]?=some (.loop (rec .ready none)):=by rw [hrecD];exact hrec
 obtain ⟨P0,hP0D⟩: ∃P0,P0=newp++β0.pins:=⟨_,rfl⟩
 have hP0: ∀p∈P0,w1.heap[p.1]?=some p.2/\p.2.isCells=false/\p.1≠l/\(p∈β0.pins\/w.heap.size<=p.1):=by
  intro p hp
  rw [hP0D] at hp
  rcases List.mem_append.1 hp with hp | hp
  ·exact ⟨(hnewp p hp).1,(hnewp p hp).2.1,(hnewp p hp).2.2.1,.inr (hnewp p hp).2.2.2⟩
  ·have:=hs0.pinLt hp
   exact ⟨by rw [hc1.same _ this (fun q=>q)];exact (hs0.pin p hp).1,(hs0.pin p hp).2.1,by omega,.inl hp⟩
 have hPb: ∀p∈β0.pins,p∈P0:=fun p hp=>by rw [hP0D];exact List.mem_append_right _ hp
 have hPl: ∀p∈P0,p.1≠l:=fun p hp=>(hP0 p hp).2.2.1
 let J:List α->Fact->Prop:=fun pre f=> ∃(i:ι) (β':Va),Pre pre i/\(∀q,q<n->β' q=β0 q)/\Sta β' n' (HH i) (FF i) ((l,.loop (rec .ready none))::P0)/\f=heldF β' (HH i) (FF i) ((l,.loop (rec .ready none))::P0)
 let Jx:List α->Fact->Prop:=fun pre f=> ∃(e:Exit) (c:Code) (j:κ) (β':Va),jumpOf e=some c/\Stp e pre j/\(∀q,q<n->β' q=β0 q)/\Sta β' n' (HX j) (FX j) ((l,.loop (rec .done (some c)))::P0)/\f=heldF β' (HX j) (FX j) ((l,.loop (rec .done (some c)))::P0)
 have mF0: ∀f∈FF i0,f∈Gi++(Ri++(FF i0++Fr)):=fun f hf=>by simp [hf]
 have mFr: ∀f∈Fr,f∈Gi++(Ri++(FF i0++Fr)):=fun f hf=>by simp [hf]
 have mGR: ∀f∈Gi++Ri,f∈Gi++(Ri++(FF i0++Fr)):=fun f hf=>by rcases List.mem_append.1 hf with q | q<;>simp [q]
 have hsz:w.heap.size<=w1.heap.size:=hc1.size
 have hpinf: ∀f∈Gi++(Ri++(FF i0++Fr)),∀p∈((l,Obj.loop (rec .ready none))::P0),¬f.D p.1:=by
  intro f hf p hp q
  rcases List.mem_cons.1 hp with rfl | hp
  ·have:=hs0.flt f hf l q;omega
  ·rcases (hP0 p hp).2.2.2 with q2 | q2
   ·exact (hs0.pin p q2).2.2 f hf q
   ·have:=hs0.flt f hf _ q;omega
 have hsta0:Sta β0 n' (HH i0) (FF i0) ((l,.loop (rec .ready none))::P0):=by
  refine ⟨hs0.inj,hs0.ltb,fun f hf=>hs0.sepb f (mF0 f hf),?_,hFF i0,fun p hp=>⟨?_,fun f hf=>hpinf f (mF0 f hf) p hp⟩⟩
  ·exact (List.pairwise_append.1 (List.pairwise_append.1 (List.pairwise_append.1 hs0.sepf).2.1).2.1).1
  ·rcases List.mem_cons.1 hp with rfl | hp
   ·rfl
   ·exact (hP0 p hp).2.1
 have hsat1:=hs0.same hc1
 have hmem1:Mem w1 (heldF β0 (HH i0) (FF i0) ((l,.loop (rec .ready none))::P0)::readF Fr::(Gi++Ri)):=by
  obtain ⟨sG,sRest,cG⟩:=List.pairwise_append.1 hs0.sepf
  obtain ⟨sR,sRest2,cR⟩:=List.pairwise_append.1 sRest
  obtain ⟨_,_,cF0⟩:=List.pairwise_append.1 sRest2
  have dsep: ∀d∈Gi++(Ri++Fr),∀q,(heldF β0 (HH i0) (FF i0) ((l,.loop (rec .ready none))::P0)).D q-> ¬d.D q:=by
   intro d hd q hq hdq
   have hdm:d∈Gi++(Ri++(FF i0++Fr)):=by
    rcases List.mem_append.1 hd with x | x
    ·simp [x]
    ·rcases List.mem_append.1 x with x | x<;>simp [x]
   rcases hq with ⟨b,hb,rfl⟩ | ⟨f,hf,hk⟩ | ⟨p,hp,rfl⟩
   ·exact hs0.sepb d hdm b hb hdq
   ·rcases List.mem_append.1 hd with x | x
    ·exact cG d x f (by simp [hf]) (.inr ((hFF i0).mem f hf)) q hdq hk
    ·rcases List.mem_append.1 x with x | x
     ·exact cR d x f (by simp [hf]) (.inr ((hFF i0).mem f hf)) q hdq hk
     ·exact cF0 f hf d x (.inl ((hFF i0).mem f hf)) q hk hdq
   ·exact hpinf d hdm p hp hdq
  refine ⟨fun f hf=>?_,fun f hf q hq=>?_,List.pairwise_cons.2 ⟨fun d hd _ q hq=>?_,List.pairwise_cons.2 ⟨fun d hd ho q hq hdq=>?_,?_⟩⟩⟩
  ·rcases List.mem_cons.1 hf with rfl | hf
   ·refine ⟨hsat1.blk,fun f hf=>hsat1.fact f (mF0 f hf),fun p hp=>?_⟩
    rcases List.mem_cons.1 hp with rfl | hp
    ·exact hrec'
    ·exact (hP0 p hp).1
   ·rcases List.mem_cons.1 hf with rfl | hf
    ·exact fun f hf=>hsat1.fact f (mFr f hf)
    ·exact hsat1.fact f (mGR f hf)
  ·rcases List.mem_cons.1 hf with rfl | hf
   ·rcases hq with ⟨b,hb,rfl⟩ | ⟨f,hf,hk⟩ | ⟨p,hp,rfl⟩
    ·exact hsat1.lt hb
    ·exact hsat1.flt f (mF0 f hf) q hk
    ·rcases List.mem_cons.1 hp with rfl | hp
     ·exact (Array.getElem?_eq_some_iff.1 hrec').1
     ·exact (Array.getElem?_eq_some_iff.1 (hP0 p hp).1).1
   ·rcases List.mem_cons.1 hf with rfl | hf
    ·obtain ⟨f,hf,hk⟩:=hq;exact hsat1.flt f (mFr f hf) q hk
    ·exact hsat1.flt f (mGR f hf) q hq
  ·rcases List.mem_cons.1 hd with rfl | hd
   ·rintro ⟨d',hd',hk⟩
    exact dsep d' (by simp [hd']) q hq hk
   ·refine dsep d ?_ q hq
    rcases List.mem_append.1 hd with x | x<;>simp [x]
  ·obtain ⟨d',hd',hk⟩:=hq
   have hdo:d.own=true:=ho.resolve_left (by simp [readF])
   rcases List.mem_append.1 hd with x | x
   ·exact cG d x d' (by simp [hd']) (.inl hdo) q hdq hk
   ·exact cR d x d' (by simp [hd']) (.inl hdo) q hdq hk
  ·refine List.pairwise_append.2 ⟨sG,sR,fun f hf d hd=>cG f hf d (by simp [hd])⟩
 have hY:Yc cx.P l J Jx (readF Fr) ins:=by
  rintro pre x f wy args X ⟨i,β',hpre,hagb,hsta,rfl⟩ hm hx
  obtain ⟨hf1,_,_,hf4,_⟩:=hm.three rfl rfl
  have hlrec:=hf1.2.2 _ List.mem_cons_self
  simp only at hlrec
  have hps':=hround i pre x args X wy (Un (heldF β' (HH i) (FF i) ((l,.loop (rec .ready none))::P0)::gv X)) l ((List.range n).map β0) ((l,.loop (rec .ready none))::P0) ((l,.loop (rec .busy none))::P0) (by simpa using hn') hpre hx
  obtain ⟨er,hbind,hcwp⟩:=hps'
  have hszt:a.tmps.size=cx.N:=hi.size
  have hagA: ∀t s,get env t=some s->a.tmps[t]?=some (s.val (⟨β'.b,((l,.loop (rec .ready none))::P0),[]⟩:Va)):=by
   intro t s ht
   rw [hi.ag t s ht]
   congr 1
   have h1:s.val β0=s.val β:=SV.val_congr hag0 (hi.lte t s ht)
   have h2:s.val (⟨β'.b,((l,.loop (rec .ready none))::P0),[]⟩:Va)=s.val (⟨β0.b,((l,.loop (rec .ready none))::P0),[]⟩:Va):=SV.val_congr (n:=n) (β:=(⟨β0.b,((l,.loop (rec .ready none))::P0),[]⟩:Va)) (β':=(⟨β'.b,((l,.loop (rec .ready none))::P0),[]⟩:Va)) ⟨rfl,rfl,hagb⟩ (hi.lte t s ht)
   have h3:s.val (⟨β0.b,((l,.loop (rec .ready none))::P0),[]⟩:Va)=s.val β0:=SV.val_eqb rfl s
   rw [<-h1,<-h3,<-h2]
  have hb4:=z_sH (n:=n') ps.toList args.toList env er a.tmps hbind hszt hagA (fun t s ht=>SV.lt_mono hn' (hi.lte t s ht))
  have hasz:args.size=ps.size:=by have:=hb4.2.2.2;simpa using this.symm
  refine ⟨fn,(ps.zip args).foldl (fun tmps (t,v)=>tmps.setIfInBounds t v) a.tmps,assign,body,?_,?_⟩
  ·have:=run_yield (P:=cx.P) (args:=args) hlrec (by rw [hrecD];exact hasz)
   rw [hrecD] at this
   exact this
  ·have hfence: ∀pn,(rcx cx wy (Un (heldF β' (HH i) (FF i) ((l,.loop (rec .ready none))::P0)::gv X)) l ((List.range n).map β0) pn).fence=Fence.wide.inRound l:=fun _=>rfl
   refine roundIn_of_wpIn trivial ?_
   have hsat:Sat (rcx cx wy (Un (heldF β' (HH i) (FF i) ((l,.loop (rec .ready none))::P0)::gv X)) l ((List.range n).map β0) ((l,.loop (rec .ready none))::P0)) ⟨β'.b,((l,.loop (rec .ready none))::P0),[]⟩ n' (HH i) (X::FF i++Fr) wy:=
    z_vw (β:=⟨β'.b,((l,.loop (rec .ready none))::P0),[]⟩) ⟨hsta.inj,hsta.ltb,hsta.sepb,hsta.sepf,hsta.own,hsta.pinf⟩ hFr hm hn' (by simp) (fun q hq=>by simp [hq,hagb q hq]) List.mem_cons_self rfl rfl
   have hw1:=(z_bv (z_dM g) _ _ _ _ _ _ hcwp).run ⟨β'.b,((l,.loop (rec .ready none))::P0),[]⟩ {tmps:=(ps.toList.zip args.toList).foldl (fun t (q:Tmp×Value)=>t.setIfInBounds q.1 q.2) a.tmps,defers:=[]} wy ⟨hb4.2.1,hb4.1,rfl,hb4.2.2.1,hsat⟩
   rw [hfence] at hw1
   have htmp:(ps.zip args).foldl (fun tmps (t,v)=>tmps.setIfInBounds t v) a.tmps=(ps.toList.zip args.toList).foldl (fun t (q:Tmp×Value)=>t.setIfInBounds q.1 q.2) a.tmps:=by
    rw [<-Array.foldl_toList,Array.toList_zip]
   rw [htmp]
   refine wpIn_mono hw1 fun e a1 wa hq=>?_
   cases e with
   | normal=>
    obtain ⟨β1,n1,env1,H1,F1,hi1,hq1⟩:=hq
    have hl1:=(hi1.sat.pin _ (hi1.sat.rnd.1 _ List.mem_cons_self)).1
    simp only at hl1
    refine ⟨_,run_beginRound hl1 (by rw [hrecD]),?_⟩
    have hSl:Un (heldF β' (HH i) (FF i) ((l,.loop (rec .ready none))::P0)::gv X) l:=⟨_,List.mem_cons_self,.inr (.inr ⟨_,List.mem_cons_self,rfl⟩)⟩
    have hs2:=hi1.sat.repin (o':= .loop (rec .busy none)) rfl ⟨_,rfl⟩ hPl hSl
    have hi2:Inv (rcx cx wy (Un (heldF β' (HH i) (FF i) ((l,.loop (rec .ready none))::P0)::gv X)) l ((List.range n).map β0) ((l,.loop (rec .busy none))::P0)) ⟨β1.b,((l,.loop (rec .busy none))::P0),[]⟩ n1 env1 H1 F1 a1 (wa.putObj l (.loop (rec .busy none))):=by
     refine ⟨fun t s ht=>?_,hi1.size,?_,hi1.lte,hs2⟩
     ·rw [hi1.ag t s ht]
      congr 1
     ·have:=hi1.df
      rw [(hi1.sat.rnd.2 l rfl).1] at this
      exact this
    have hrb:({rec .ready none with state:= .busy}:Loop)=rec .busy none:=by rw [hrecD]
    rw [hrb]
    have hw2:=(z_bv (z_dM g) _ _ _ _ _ _ hq1).run _ _ _ hi2
    rw [hfence] at hw2
    refine wpIn_mono hw2 fun e2 a2 wb hq2=>?_
    have hSp: ∀p∈(l,Obj.loop (rec .busy none))::P0,Un (heldF β' (HH i) (FF i) ((l,.loop (rec .ready none))::P0)::gv X) p.1:=by
     intro p hp
     rcases List.mem_cons.1 hp with rfl | hp
     ·exact hSl
     ·exact ⟨_,List.mem_cons_self,.inr (.inr ⟨p,List.mem_cons_of_mem _ hp,rfl⟩)⟩
    have stopx: ∀(e:Exit) (c:Code),jumpOf e=some c->After (rcx cx wy (Un (heldF β' (HH i) (FF i) ((l,.loop (rec .ready none))::P0)::gv X)) l ((List.range n).map β0) ((l,.loop (rec .busy none))::P0)) (fun m env H F=> ∃j,Stp e (pre++[x]) j/\Ent (rcx cx wy (Un (heldF β' (HH i) (FF i) ((l,.loop (rec .ready none))::P0)::gv X)) l ((List.range n).map β0) ((l,.loop (rec .busy none))::P0)) m env H F n' [] (HX j) (FX j)) a2 wb->
      ∃v w4,(Instr.endRound l (some c)).run cx.P wb= .ok v w4/\ ∃u,Ending.returned v= .returned u/\ ∃f',Chg (Un (heldF β' (HH i) (FF i) ((l,.loop (rec .ready none))::P0)::gv X)) wy w4/\f'.own=true/\f'.p w4/\(∀k,f'.D k->(Un (heldF β' (HH i) (FF i) ((l,.loop (rec .ready none))::P0)::gv X) k\/wy.heap.size<=k)/\k<w4.heap.size)/\((u= .bool true/\J (pre++[x]) f')\/(u= .bool false/\Jx (pre++[x]) f')):=by
     rintro e c hc ⟨β2,n2,env2,H2,F2,hi3,j,hst,hentj⟩
     obtain ⟨β3,_,_,hi4⟩:=hentj.run β2 a2 wb hi3
     have hl3:=(hi4.sat.pin _ (hi4.sat.rnd.1 _ List.mem_cons_self)).1
     simp only at hl3
     have her:=run_endRound (P:=cx.P) (some c) hl3
     simp only [Option.isNone_some,Bool.false_eq_true,if_false] at her
     have hrd:({rec .busy none with state:= .done,pending:=some c}:Loop)=rec .done (some c):=by rw [hrecD]
     rw [hrd] at her
     obtain ⟨q1,q2,q3,q4⟩:=z_rB hi4.sat (hFX j) (o':= .loop (rec .done (some c))) ⟨_,rfl⟩ hPl hSp
     refine ⟨_,_,her,_,rfl,_,q1,rfl,q2,q3,.inr ⟨rfl,e,c,j,β3,hc,hst,fun q hq=>?_,q4,rfl⟩⟩
     have:=hi4.sat.fix.2 q (by simpa [rcx] using hq)
     rw [this]
     simp [rcx,hq]
    cases e2 with
    | normal=>
     obtain ⟨β2,n2,env2,H2,F2,hi3,j,hst,hentj⟩:=hq2
     obtain ⟨β3,_,_,hi4⟩:=hentj.run β2 a2 wb hi3
     have hl3:=(hi4.sat.pin _ (hi4.sat.rnd.1 _ List.mem_cons_self)).1
     simp only at hl3
     have her:=run_endRound (P:=cx.P) none hl3
     simp only [Option.isNone_none,if_true] at her
     have hrd:({rec .busy none with state:= .ready,pending:=none}:Loop)=rec .ready none:=by rw [hrecD]
     rw [hrd] at her
     obtain ⟨q1,q2,q3,q4⟩:=z_rB hi4.sat (hFF j) (o':= .loop (rec .ready none)) ⟨_,rfl⟩ hPl hSp
     refine ⟨_,_,her,_,rfl,_,q1,rfl,q2,q3,.inl ⟨rfl,j,β3,hst,fun q hq=>?_,q4,rfl⟩⟩
     have:=hi4.sat.fix.2 q (by simpa [rcx] using hq)
     rw [this]
     simp [rcx,hq]
    | ret=>exact stopx .ret .ret rfl hq2
    | exit id=>exact stopx (.exit id) (.exit id) rfl hq2
    | goto t=>obtain ⟨_,_,_,_,_,_,q⟩:=hq2;exact q.elim
    | panic c=>exact hq2.elim
    | outgrown=>exact hq2.elim
   | ret=>obtain ⟨_,_,_,_,_,_,q⟩:=hq;exact q.elim
   | exit id=>obtain ⟨_,_,_,_,_,_,q⟩:=hq;exact q.elim
   | goto t=>obtain ⟨_,_,_,_,_,_,q⟩:=hq;exact q.elim
   | panic c=>exact hq.elim
   | outgrown=>exact hq.elim
 have hcon:=hit l w1 _ (readF Fr) J Jx ⟨i0,β0,h0,fun _ _=>rfl,hsta0,rfl⟩ (fun pre f ⟨_,_,_,_,_,e⟩=>by rw [e];rfl) rfl hY (fun pre f ⟨i,_,h,_⟩=>⟨i,h⟩) hmem1
 refine ⟨l,_,w1,{target:= .fn (.func k) cv.toArray,args:= #[.func (.yield l) #[] #[]]},w1,k,#[.func (.yield l) #[] #[]]++cv.toArray,w1,hrun,?_,fun f' _=>cx.fence_fn f',?_,fun q=>(by rw [cx.fence_depth] at q;cases q),?_⟩
 ·simp only [resolve,hval]
  simp [go_sem]
 ·simp [invoke,go_sem,z_rD hcall]
 ·refine CallsIn.mono (z_mG cx (callsIn_wide (n:=0 - 1).2 hcon)) fun e w2 hq=>?_
  obtain ⟨v,rfl,Fs,⟨f,Fs',rfl,hJ⟩,hch,hm2,hown2,hD2⟩:=hq
  have hmks:(mk++β0.marks).Nodup/\ ∀r∈mk++β0.marks,(r,Obj.deferred (some []))∈P0/\cx.W0.heap.size<=r:=by
   refine ⟨List.nodup_append.2 ⟨hmk1,hs0.mrk.1,fun r hr r' hr' q=>?_⟩,fun r hr=>?_⟩
   ·subst q
    have h1:=(hmk2 r hr).2
    have h2:=hs0.pinLt (hs0.mrk.2 r hr').1
    simp only at h2
    omega
   ·rcases List.mem_append.1 hr with hr | hr
    ·exact ⟨by rw [hP0D];exact List.mem_append_left _ (hmk2 r hr).1,Nat.le_trans hs0.chg.size (hmk2 r hr).2⟩
    ·exact ⟨hPb _ (hs0.mrk.2 r hr).1,(hs0.mrk.2 r hr).2⟩
  have hmr: ∀l',cx.rnd=some l'->mk++β0.marks=[]:=fun l' hl'=>by rw [hmk3 l' hl',(hs0.rnd.2 l' hl').1];rfl
  have hbsn:cx.bs.length<=n:=hi.sat.fix.1
  have fin: ∀(β':Va) (Hn:List Bk) (Fn:List Fact) (w4:World) (K:KT),(∀q,q<n->β' q=β0 q)->Sat cx ⟨β'.b,P0,mk++β0.marks⟩ n' Hn (Fs'++(Fn++Fr)) w4->K n' env Hn (Fs'++(Fn++Fr))->
    After cx K {a with defers:=mk.map (fun r=> {target:= .collected r,args:= #[]})++a.defers} w4:=by
   intro β' Hn Fn w4 K hagb hsat hK
   refine ⟨_,n',env,Hn,_,⟨fun t s ht=>?_,hi.size,?_,fun t s ht=>SV.lt_mono hn' (hi.lte t s ht),hsat⟩,hK⟩
   ·show a.tmps[t]?=_
    rw [hi.ag t s ht]
    congr 1
    have key: ∀y:SL,y.lt n->y.val (⟨β'.b,P0,mk++β0.marks⟩:Va)=y.val β:=fun y hy=>by
     cases y with
     | v x=>rfl
     | p id o=>simp only [SL.val];rw [<-hag0.at_ id hy];exact congrArg (fun z=>Value.pointer (some ⟨z,o,none⟩)) (hagb id hy)
    have hlt:=hi.lte t s ht
    cases s with
    | c x=>exact (key x hlt).symm
    | agg xs=>simp only [SV.val];congr 2;exact List.map_congr_left fun x hx=>(key x (hlt x hx)).symm
    | fn f u v=>simp only [SV.val];congr 2<;>exact List.map_congr_left fun x hx=>(key x (by first | exact hlt.1 x hx | exact hlt.2 x hx)).symm
   ·show _++a.defers=_
    rw [hi.df,<-hag0.marks,List.map_append]
  rcases hJ with ⟨xs,⟨i,β',hpre,hagb,hsta,rfl⟩,hdn⟩ | ⟨pre,⟨e,c,j,β',hc,hst,hagb,hsta,rfl⟩,hsd⟩
  ·have hl2:=(hm2.fact _ List.mem_cons_self).2.2 _ List.mem_cons_self
   simp only at hl2
   have hel:=run_endLoop (P:=cx.P) hl2 (by rw [hrecD];simp)
   have hpd:(rec .ready none).pending=none:=by rw [hrecD]
   rw [hpd] at hel
   exact ⟨none,_,hel,fin β' (HH i) (FF i) _ _ hagb (z_qM hs0 hGi (hFF i0) hc1 hll hP0 hPb hch hm2 hD2 hsta hbsn hagb hmks hmr) (hdone xs i Fs' hpre hdn)⟩
  ·have hl2:=(hm2.fact _ List.mem_cons_self).2.2 _ List.mem_cons_self
   simp only at hl2
   have hel:=run_endLoop (P:=cx.P) hl2 (by rw [hrecD];simp)
   have hpd:(rec .done (some c)).pending=some c:=by rw [hrecD]
   rw [hpd] at hel
   refine ⟨some c,_,hel,?_⟩
   have hA:=fin β' (HX j) (FX j) _ (Q e) hagb (z_qM (o2:= .loop {rec .done (some c) with state:= .exhausted,pending:=some c}) hs0 hGi (hFF i0) hc1 hll hP0 hPb hch hm2 hD2 hsta hbsn hagb hmks hmr) (hstop e pre j Fs' hst hsd)
   cases e<;>simp only [jumpOf,Option.some.injEq,reduceCtorEq] at hc
   ·subst hc;exact wpIn_exit hA
   ·subst hc;exact wpIn_ret hA
theorem z_ca {α ι κ:Type} (g:Good cx) {fo:Operand} {ps:Array Tmp} {assign body:Code} {Q:Exit->KT} {k:FuncId} {cv:List Value} {sv:SV}
  (hsv:ev env fo=some sv) (hfn:fnOf sv=some (k,[],cv.map SL.v)) (hcall:callable cx.P k=true) (n':Nat) (hn':n<=n')
  (Pre:List α->ι->Prop) (HH:ι->List Bk) (FF:ι->List Fact) (hFF: ∀i,Owns (FF i))
  (Stp:Exit->List α->κ->Prop) (HX:κ->List Bk) (FX:κ->List Fact) (hFX: ∀j,Owns (FX j))
  (Gi Ri Fr:List Fact) (hGi:Owns Gi) (hFr: ∀g∈Fr,g.own=false)
  (i0:ι) (h0:Pre [] i0) (hent: ∀β w,Sat cx β n H F w-> ∃β',Agr n β β'/\Sat cx β' n' (HH i0) (Gi++(Ri++(FF i0++Fr))) w)
  (ins:List α->α->Array Value->Fact->Prop) (Done Stopd:List α->List Fact->Prop)
  (hit: ∀(l:Nat) (w:World) (f0 R:Fact) (J Jx:List α->Fact->Prop),J [] f0->(∀pre f,J pre f->f.own=true)->R.own=false->Yc cx.P l J Jx R ins->Mem w (f0::R::(Gi++Ri))->
   Con cx.P k (#[Value.func (.yield l) #[] #[]]++cv.toArray) w (f0::Gi) (fun _ Fs=> ∃f Fs',Fs=f::Fs'/\((∃xs,J xs f/\Done xs Fs')\/(∃pre,Jx pre f/\Stopd pre Fs'))))
  (hround: ∀(i:ι) (pre:List α) (x:α) (args:Array Value) (X:Fact) (W:World) (S:Nat->Prop) (l:Nat) (bs:List Nat) (pn pn':List (Nat×Obj)),bs.length<=n'->Pre pre i->ins pre x args X-> ∃er,bindP cx.N ps.toList args.toList env=some er/\
   cwp (rcx cx W S l bs pn) assign (norm (cwp (rcx cx W S l bs pn') body (RoundQ (rcx cx W S l bs pn') n' Pre HH FF Stp HX FX (pre++[x])))) n' er (HH i) (X::FF i++Fr))
  (hdone: ∀xs i Fs,Pre xs i->Done xs Fs->Q .normal n' env (HH i) (Fs++(FF i++Fr)))
  (hstop: ∀e pre j Fs,Stp e pre j->Stopd pre Fs->Q e n' env (HX j) (Fs++(FX j++Fr))):
  Tri cx (.rangeFunc fo ps assign body) Q n env H F:=
 z_sb g hsv hfn hcall n' hn' Pre HH FF hFF Stp HX FX hFX Gi Ri Fr hGi hFr i0 h0 hent ins Done Stopd (fun l w f0 R J Jx h1 h2 h3 h4 _ h5=>hit l w f0 R J Jx h1 h2 h3 h4 h5) hround hdone hstop
end
#print axioms z_ca
end Go.Proofs.YtfomhhkoamapmaaGreatDoor.Sx
namespace Go.Proofs.YtfomhhkoamapmaaGreatDoor.Sx
open Go
def noF:Fact where
 own:=false
 D:=None_
 p:=fun _=>True
 st:=fun _ _ _ h=>h
def noO:Fact where
 own:=true
 D:=None_
 p:=fun _=>True
 st:=fun _ _ _ h=>h
section
variable {cx:Cx} {β:Va} {n:Nat} {env:Env} {H:List Bk} {F:List Fact} {w w':World} {dst:Option Tmp} {K:KT}
theorem Sat.nthMem (j:Nat) {f:Fact} (hj:nth F j=some f):f∈F:=List.mem_of_getElem? (by rw [<-z_aX];exact hj)
theorem z_dF {α:Type} {l:Nat} {J Jx:List α->Fact->Prop} {R:Fact} {ins:List α->α->Array Value->Fact->Prop} (hY:Yc cx.P l J Jx R ins) {A:Va->Array Value} {pre:List α} {x:α} {f X:Fact}
  (jf jR:Nat) (hf:nth F jf=some f) (hJ:J pre f) (hfo:f.own=true) (hR:nth F jR=some R) (hRo:R.own=false) (hne:jf≠jR) (hins: ∀β,ins pre x (A β) X) (hXo:X.own=false)
  (hX: ∀β w,Sat cx β n H F w->X.p w/\(∀k,X.D k->k<w.heap.size)/\ ∀k,f.D k-> ¬X.D k)
  (ht: ∀f',f'.own=true->J (pre++[x]) f'->put cx.N n env H (f'::dropIx [jf] 0 F) dst (.c (.v (.bool true))) K)
  (hs: ∀f',f'.own=true->Jx (pre++[x]) f'->put cx.N n env H (f'::dropIx [jf] 0 F) dst (.c (.v (.bool false))) K):
  ∀β w,Sat cx β n H F w->Yld cx.P l (A β) w fun v w'=>Ret cx β n env dst K v w':=by
 intro β w hsat
 obtain ⟨h1,h2,h3⟩:=hX β w hsat
 have hfm:=Sat.nthMem jf hf
 have hRm:=Sat.nthMem jR hR
 have hap:=hsat.apart (i:=jf) (j:=jR) (by rw [<-z_aX];exact hf) (by rw [<-z_aX];exact hR) hne (.inl hfo)
 have hm:Mem w [f,R,X]:=by
  refine ⟨fun g hg=>?_,fun g hg k hk=>?_,?_⟩
  ·simp only [List.mem_cons,List.not_mem_nil,or_false] at hg
   rcases hg with rfl | rfl | rfl
   ·exact hsat.fact _ hfm
   ·exact hsat.fact _ hRm
   ·exact h1
  ·simp only [List.mem_cons,List.not_mem_nil,or_false] at hg
   rcases hg with rfl | rfl | rfl
   ·exact hsat.flt _ hfm k hk
   ·exact hsat.flt _ hRm k hk
   ·exact h2 k hk
  ·refine List.pairwise_cons.2 ⟨fun g hg _=>?_,List.pairwise_cons.2 ⟨fun g hg ho=>?_,List.pairwise_singleton _ _⟩⟩
   ·simp only [List.mem_cons,List.not_mem_nil,or_false] at hg
    rcases hg with rfl | rfl
    ·exact hap
    ·exact h3
   ·obtain rfl:=List.mem_singleton.1 hg
    rw [hRo,hXo] at ho
    rcases ho with q | q<;>cases q
 obtain ⟨fn,tmps,as_,body,hrun,hround⟩:=hY pre x f w (A β) X hJ hm (hins β)
 refine ⟨fn,tmps,as_,body,hrun,hround.mono ?_⟩
 rintro e w' ⟨v,rfl,f',hc,hfo',hfp',hD,hv⟩
 rw [z_zr hXo] at hc hD
 have htk:takeIx F [jf]=[f]:=by simp only [takeIx,hf]
 have hsw:=hsat.swap (w':=w') [jf] (by rw [htk];exact ⟨hfo,trivial⟩) (Fs:=[f']) (by rw [htk];exact hc) ⟨fun g hg=>by obtain rfl:=List.mem_singleton.1 hg;exact hfp',fun g hg k hk=>by obtain rfl:=List.mem_singleton.1 hg;exact (hD k hk).2,List.pairwise_singleton _ _⟩ (by
  intro g hg k hk
  obtain rfl:=List.mem_singleton.1 hg
  rw [htk]
  exact (hD k hk).1)
 refine ⟨v,rfl,?_⟩
 rcases hv with ⟨rfl,hJ'⟩ | ⟨rfl,hJ'⟩
 ·exact Ret.mk _ _ hsw (ht f' hfo' hJ')
 ·exact Ret.mk _ _ hsw (hs f' hfo' hJ')
theorem z_vn {α:Type} {l:Nat} {J Jx:List α->Fact->Prop} {R:Fact} {ins:List α->α->Array Value->Fact->Prop} (hY:Yc cx.P l J Jx R ins) {A:Va->Array Value} {pre:List α} {x:α} {f X:Fact}
  (jf jR jX:Nat) (hf:nth F jf=some f) (hJ:J pre f) (hfo:f.own=true) (hR:nth F jR=some R) (hX:nth F jX=some X) (hXo:X.own=true) (hne:jf≠jR) (hne2:jf≠jX) (hne3:jR≠jX) (hins: ∀β,ins pre x (A β) X)
  (ht: ∀f',f'.own=true->J (pre++[x]) f'->put cx.N n env H (f'::dropIx [jf,jX] 0 F) dst (.c (.v (.bool true))) K)
  (hs: ∀f',f'.own=true->Jx (pre++[x]) f'->put cx.N n env H (f'::dropIx [jf,jX] 0 F) dst (.c (.v (.bool false))) K):
  ∀β w,Sat cx β n H F w->Yld cx.P l (A β) w fun v w'=>Ret cx β n env dst K v w':=by
 intro β w hsat
 have hfm:=Sat.nthMem jf hf
 have hRm:=Sat.nthMem jR hR
 have hXm:=Sat.nthMem jX hX
 rw [z_aX] at hf hR hX
 have hm:Mem w [f,R,X]:=by
  refine ⟨fun g hg=>?_,fun g hg k hk=>?_,?_⟩
  ·simp only [List.mem_cons,List.not_mem_nil,or_false] at hg
   rcases hg with rfl | rfl | rfl
   ·exact hsat.fact _ hfm
   ·exact hsat.fact _ hRm
   ·exact hsat.fact _ hXm
  ·simp only [List.mem_cons,List.not_mem_nil,or_false] at hg
   rcases hg with rfl | rfl | rfl
   ·exact hsat.flt _ hfm k hk
   ·exact hsat.flt _ hRm k hk
   ·exact hsat.flt _ hXm k hk
  ·refine List.pairwise_cons.2 ⟨fun g hg _=>?_,List.pairwise_cons.2 ⟨fun g hg ho=>?_,List.pairwise_singleton _ _⟩⟩
   ·simp only [List.mem_cons,List.not_mem_nil,or_false] at hg
    rcases hg with rfl | rfl
    ·exact hsat.apart hf hR hne (.inl hfo)
    ·exact hsat.apart hf hX hne2 (.inl hfo)
   ·obtain rfl:=List.mem_singleton.1 hg
    exact hsat.apart hR hX hne3 (.inr hXo)
 obtain ⟨fn,tmps,as_,body,hrun,hround⟩:=hY pre x f w (A β) X hJ hm (hins β)
 refine ⟨fn,tmps,as_,body,hrun,hround.mono ?_⟩
 rintro e w' ⟨v,rfl,f',hc,hfo',hfp',hD,hv⟩
 rw [z_xQ hXo] at hc hD
 have htk:takeIx F [jf,jX]=[f,X]:=by simp only [takeIx,z_aX,hf,hX]
 have hsw:=hsat.swap (w':=w') [jf,jX] (by rw [htk];exact ⟨hfo,hXo,trivial⟩) (Fs:=[f']) (by rw [htk];exact hc) ⟨fun g hg=>by obtain rfl:=List.mem_singleton.1 hg;exact hfp',fun g hg k hk=>by obtain rfl:=List.mem_singleton.1 hg;exact (hD k hk).2,List.pairwise_singleton _ _⟩ (by
  intro g hg k hk
  obtain rfl:=List.mem_singleton.1 hg
  rw [htk]
  exact (hD k hk).1)
 refine ⟨v,rfl,?_⟩
 rcases hv with ⟨rfl,hJ'⟩ | ⟨rfl,hJ'⟩
 ·exact Ret.mk _ _ hsw (ht f' hfo' hJ')
 ·exact Ret.mk _ _ hsw (hs f' hfo' hJ')
theorem Mem.sat0 (h:Mem w F) (hW:cx.W0=w:=by rfl) (hS: ∀f∈F,f.own=true-> ∀k,f.D k->cx.S k) (hbs:cx.bs=[]:=by rfl)
  (hp:β.pins=[]:=by rfl) (hm:β.marks=[]:=by rfl) (hr:cx.rnd=none:=by rfl) (hpn:cx.pn=[]:=by rfl):Sat cx β n [] F w:=
 h.sat hW hS ⟨by rw [hbs];exact Nat.zero_le _,fun i hi=>by rw [hbs] at hi;cases hi⟩ hp hm hr hpn
theorem ownIn {Gs Rs:List Fact} (hR: ∀g∈Rs,g.own=false): ∀f∈Gs++Rs,f.own=true-> ∀k,f.D k->Un Gs k:=fun f hf ho k hk=>by
 rcases List.mem_append.1 hf with q | q
 ·exact ⟨f,q,hk⟩
 ·rw [hR f q] at ho;cases ho
end
def SL.re (id b:Nat):SL->SL
 | .v x=> .v x
 | .p i o=>match Nat.beq i id with | true=> .v (.pointer (some ⟨b,o,none⟩)) | false=> .p i o
def SV.re (id b:Nat):SV->SV
 | .c x=> .c (x.re id b)
 | .agg xs=> .agg (xs.map (SL.re id b))
 | .fn f u v=> .fn f (u.map (SL.re id b)) (v.map (SL.re id b))
def envRe (id b:Nat):Env->Env
 | []=>[]
 | (t,s)::r=>(t,s.re id b)::envRe id b r
def bksRe (id b:Nat):List Bk->List Bk
 | []=>[]
 | k::r=>match Nat.beq k.id id with | true=>bksRe id b r | false=>⟨k.id,k.ty,k.cells.map (SL.re id b)⟩::bksRe id b r
def tyAt:List Bk->Nat->Option TypeId
 | [],_=>none
 | b::r,i=>match Nat.beq b.id i with | true=>some b.ty | false=>tyAt r i
theorem SL.re_val {id b:Nat} {β:Va} (h:β id=b) (x:SL):(x.re id b).val β=x.val β:=by
 cases x with
 | v x=>rfl
 | p i o=>
  simp only [SL.re]
  cases hb:Nat.beq i id with
  | true=>obtain rfl:=Nat.eq_of_beq_eq_true hb;simp only [SL.val,h]
  | false=>rfl
theorem SL.re_lt {id b n:Nat} {x:SL} (h:x.lt n):(x.re id b).lt n:=by
 cases x with
 | v x=>trivial
 | p i o=>
  simp only [SL.re]
  cases hb:Nat.beq i id with
  | true=>trivial
  | false=>exact h
theorem SV.re_val {id b:Nat} {β:Va} (h:β id=b) (x:SV):(x.re id b).val β=x.val β:=by
 have key: ∀l:List SL,(l.map (SL.re id b)).map (SL.val β)=l.map (SL.val β):=fun l=>by
  rw [List.map_map];exact List.map_congr_left fun x _=>SL.re_val h x
 cases x<;>simp only [SV.re,SV.val,SL.re_val h,key]
theorem SV.re_lt {id b n:Nat} {x:SV} (h:x.lt n):(x.re id b).lt n:=by
 have key: ∀l:List SL,(∀x∈l,x.lt n)-> ∀x∈l.map (SL.re id b),x.lt n:=fun l hl x hx=>by
  obtain ⟨y,hy,rfl⟩:=List.mem_map.1 hx
  exact SL.re_lt (hl y hy)
 cases x with
 | c x=>exact SL.re_lt h
 | agg xs=>exact key xs h
 | fn f u v=>exact ⟨key u h.1,key v h.2⟩
theorem z_fL {id b:Nat}: ∀ {env:Env} {t:Nat} {s:SV},get (envRe id b env) t=some s-> ∃u,get env t=some u/\s=u.re id b
 | [],t,s,h=>by cases h
 | (u,s')::r,t,s,h=>by
  simp only [envRe] at h
  by_cases hut:u=t
  ·subst hut
   rw [z_dW] at h
   exact ⟨s',z_dW _ _ _,(Option.some.inj h).symm⟩
  ·rw [z_cq _ _ hut] at h
   obtain ⟨v,hv,e⟩:=z_fL h
   exact ⟨v,by rw [z_cq _ _ hut];exact hv,e⟩
theorem z_kb {id b:Nat}: ∀ {H:List Bk} {c:Bk},c∈bksRe id b H-> ∃k∈H,k.id≠id/\c=⟨k.id,k.ty,k.cells.map (SL.re id b)⟩
 | k::r,c,h=>by
  simp only [bksRe] at h
  cases hb:Nat.beq k.id id with
  | true=>
   rw [hb] at h
   obtain ⟨k',hk,e⟩:=z_kb h
   exact ⟨k',List.mem_cons_of_mem _ hk,e⟩
  | false=>
   rw [hb] at h
   rcases List.mem_cons.1 h with rfl | h
   ·exact ⟨k,List.mem_cons_self,fun q=>(by rw [q,Nat.beq_refl] at hb;cases hb),rfl⟩
   ·obtain ⟨k',hk,e⟩:=z_kb h
    exact ⟨k',List.mem_cons_of_mem _ hk,e⟩
theorem z_p9 {id b:Nat} (R:Nat->Nat->Prop): ∀ {H:List Bk},H.Pairwise (fun b c=>R b.id c.id)->(bksRe id b H).Pairwise (fun b c=>R b.id c.id)
 | [],_=>List.Pairwise.nil
 | k::r,h=>by
  obtain ⟨h1,h2⟩:=List.pairwise_cons.1 h
  simp only [bksRe]
  cases hb:Nat.beq k.id id with
  | true=>exact z_p9 R h2
  | false=>
   refine List.pairwise_cons.2 ⟨fun x hx=>?_,z_p9 R h2⟩
   obtain ⟨k',hk,_,rfl⟩:=z_kb hx
   exact h1 k' hk
theorem z_wJ {H:List Bk} {i:Nat} {t:TypeId} {cs:List SL} (h:tyAt H i=some t) (h2:cellsAt H i=some cs):(⟨i,t,cs⟩:Bk)∈H:=by
 induction H with
 | nil=>cases h
 | cons b r ih=>
  simp only [tyAt] at h
  simp only [cellsAt] at h2
  cases hb:Nat.beq b.id i with
  | true=>
   rw [hb] at h h2
   have:=Nat.eq_of_beq_eq_true hb
   obtain rfl:=Option.some.inj h
   obtain rfl:=Option.some.inj h2
   subst this
   exact List.mem_cons_self
  | false=>
   rw [hb] at h h2
   exact List.mem_cons_of_mem _ (ih h h2)
theorem Sat.reify {cx:Cx} {β:Va} {n:Nat} {H:List Bk} {F:List Fact} {w:World} (h:Sat cx β n H F w) (id:Nat) {ty:TypeId} {cs:List SL} {vs:List Value} (h1:tyAt H id=some ty) (h2:cellsAt H id=some cs) (h3:allV (cs.map (SL.re id (β id)))=some vs):
  Sat cx β n (bksRe id (β id) H) (bkF (β id) ty vs::F) w:=by
 have hm:=z_wJ h1 h2
 have hb:=h.blk _ hm
 have hvs:=z_oQ h3
 have hcv:cs.map (SL.val β)=vs:=by
  have e1:(cs.map (SL.re id (β id))).map (SL.val β)=cs.map (SL.val β):=by
   rw [List.map_map];exact List.map_congr_left fun x _=>SL.re_val rfl x
  rw [<-e1,hvs,List.map_map]
  have:(SL.val β∘SL.v)=(fun x:Value=>x):=rfl
  rw [this,List.map_id']
 have hp:w.heap[β id]?=some (.cells vs.toArray ty (0,0)):=by rw [<-hcv];exact hb
 have h4:Sat cx β n (bksRe id (β id) H) F w:=by
  refine ⟨h.chg,h.fix,fun b hb=>?_,fun b hb=>?_,z_p9 (fun x y=>β x≠β y) h.inj,fun b hb=>?_,h.fact,h.flt,fun f hf b hb=>?_,h.fown,h.sepf,h.pin,h.mrk,h.rnd⟩
  all_goals obtain ⟨k,hk,_,rfl⟩:=z_kb hb
  ·have:=h.blk k hk
   simp only
   rw [this,List.map_map,show SL.val β∘SL.re id (β id)=SL.val β from funext fun x=>SL.re_val rfl x]
  ·exact h.mine k hk
  ·refine ⟨(h.ltb k hk).1,fun x hx=>?_⟩
   obtain ⟨y,hy,rfl⟩:=List.mem_map.1 hx
   exact SL.re_lt ((h.ltb k hk).2 y hy)
  ·exact h.sepb f hf k hk
 refine h4.old (bkF (β id) ty vs) hp (fun k hk=>?_) (fun b hb q=>?_) (fun _ k hk=>?_) (fun g hg _ k hk q=>?_) (fun p hp q=>?_)
 ·obtain rfl:k=β id:=hk;exact h.lt hm
 ·obtain ⟨k,hk,hne,rfl⟩:=z_kb hb
  have hq:β k.id=β id:=q
  obtain ⟨i,hi⟩:=List.getElem?_of_mem hk
  obtain ⟨j,hj⟩:=List.getElem?_of_mem hm
  obtain ⟨hil,rfl⟩:=List.getElem?_eq_some_iff.1 hi
  obtain ⟨hjl,hje⟩:=List.getElem?_eq_some_iff.1 hj
  have hpw:=List.pairwise_iff_getElem.1 h.inj
  rcases Nat.lt_trichotomy i j with hlt | heq | hgt
  ·exact hpw i j hil hjl hlt (by rw [hje];exact hq)
  ·subst heq;rw [hje] at hne;exact hne rfl
  ·exact hpw j i hjl hil hgt (by rw [hje];exact hq.symm)
 ·obtain rfl:k=β id:=hk;exact h.mine _ hm
 ·obtain rfl:k=β id:=hk;exact h.sepb g hg _ hm q
 ·exact h.pinBk hp hm (Eq.symm q)
theorem z_hT {cx:Cx} (g:Good cx) {c:Code} {Q:Exit->KT} {n:Nat} {env:Env} {H:List Bk} {F:List Fact} (id:Nat) {ty:TypeId} {cs:List SL} (vs:Nat->List Value) (h1:tyAt H id=some ty) (h2:cellsAt H id=some cs) (h3: ∀b,allV (cs.map (SL.re id b))=some (vs b))
  (h: ∀b,cwp cx c Q n (envRe id b env) (bksRe id b H) (bkF b ty (vs b)::F)):Tri cx c Q n env H F:=by
 refine ⟨fun β a w hi=>(z_bv g c Q n _ _ _ (h (β id))).run β a w ⟨fun t s ht=>?_,hi.size,hi.df,fun t s ht=>?_,hi.sat.reify id h1 h2 (h3 (β id))⟩⟩
 ·obtain ⟨u,hu,rfl⟩:=z_fL ht
  rw [SV.re_val rfl];exact hi.ag t u hu
 ·obtain ⟨u,hu,rfl⟩:=z_fL ht
  exact SV.re_lt (hi.lte t u hu)
structure EntX {ι:Type} (cx:Cx) (n:Nat) (env:Env) (H:List Bk) (F:List Fact) (T:ι->Prop) (n':Nat) (E:ι->Env) (HH:ι->List Bk) (FF:ι->List Fact):Prop where
 run: ∀β a w,Inv cx β n env H F a w-> ∃(i:ι) (β':Va),T i/\β'.pins=β.pins/\β'.marks=β.marks/\Inv cx β' n' (E i) (HH i) (FF i) a w
section
variable {ι:Type} {cx:Cx} {n n':Nat} {env:Env} {H:List Bk} {F:List Fact} {T:ι->Prop} {E:ι->Env} {HH:ι->List Bk} {FF:ι->List Fact}
theorem EntX.of (i:ι) (hi:T i) (h:Ent cx n env H F n' (E i) (HH i) (FF i)):EntX cx n env H F T n' E HH FF:=
 ⟨fun β a w hv=>by obtain ⟨β',h1,h2,h3⟩:=h.run β a w hv;exact ⟨i,β',hi,h1,h2,h3⟩⟩
theorem EntX.reify (id:Nat) {ty:TypeId} {cs:List SL} (vs:Nat->List Value) (h1:tyAt H id=some ty) (h2:cellsAt H id=some cs) (h3: ∀b,allV (cs.map (SL.re id b))=some (vs b))
  (h: ∀b,EntX cx n (envRe id b env) (bksRe id b H) (bkF b ty (vs b)::F) T n' E HH FF):EntX cx n env H F T n' E HH FF:=by
 refine ⟨fun β a w hi=>?_⟩
 refine (h (β id)).run β a w ⟨fun t s ht=>?_,hi.size,hi.df,fun t s ht=>?_,hi.sat.reify id h1 h2 (h3 (β id))⟩
 ·obtain ⟨u,hu,rfl⟩:=z_fL ht
  rw [SV.re_val rfl];exact hi.ag t u hu
 ·obtain ⟨u,hu,rfl⟩:=z_fL ht
  exact SV.re_lt (hi.lte t u hu)
theorem z_gW {c:Code} {Q:Exit->KT} (T:ι->Prop) (n':Nat) (E:ι->Env) (HH:ι->List Bk) (FF:ι->List Fact) (hkey: ∀i,T i->Tri cx c Q n' (E i) (HH i) (FF i)) (h:EntX cx n env H F T n' E HH FF):Tri cx c Q n env H F:=
 ⟨fun β a w hv=>by obtain ⟨i,β',hi,_,_,h3⟩:=h.run β a w hv;exact (hkey i hi).run β' a w h3⟩
end
def exitIs (id:Nat):Exit->Bool
 | .exit i=>Nat.beq i id
 | _=>false
def joinQ {κ:Type} (cx:Cx) (id:Nat) (X:κ->Prop) (n2:Nat) (E2:κ->Env) (HH2:κ->List Bk) (FF2:κ->List Fact) (Q:Exit->KT):Exit->KT:=fun e=>match exitIs id e with
 | true=>fun m env H F=>EntX cx m env H F X n2 E2 HH2 FF2
 | false=>Q e
theorem z_gH {κ:Type} {cx:Cx} {n:Nat} {env:Env} {H:List Bk} {F:List Fact} {c:Code} {Q:Exit->KT} (id:Nat) (X:κ->Prop) (n2:Nat) (E2:κ->Env) (HH2:κ->List Bk) (FF2:κ->List Fact)
  (hx: ∀j,X j->Q (.exit id) n2 (E2 j) (HH2 j) (FF2 j)) (h:Tri cx c (joinQ cx id X n2 E2 HH2 FF2 Q) n env H F):Tri cx c Q n env H F:=by
 refine ⟨fun β a w hv=>wpIn_mono (h.run β a w hv) fun e a' w' hp=>?_⟩
 have plain:exitIs id e=false->After cx (joinQ cx id X n2 E2 HH2 FF2 Q e) a' w'->After cx (Q e) a' w':=by
  intro he hq
  unfold joinQ at hq
  rw [he] at hq
  exact hq
 cases e with
 | exit i=>
  cases hb:exitIs id (.exit i) with
  | false=>exact plain hb hp
  | true=>
   obtain rfl:i=id:=Nat.eq_of_beq_eq_true hb
   obtain ⟨β',n1,env1,H1,F1,hi,hq⟩:=hp
   unfold joinQ at hq
   rw [hb] at hq
   obtain ⟨j,β2,hj,_,_,hi2⟩:=hq.run β' a' w' hi
   exact ⟨β2,n2,E2 j,HH2 j,FF2 j,hi2,hx j hj⟩
 | normal=>exact plain rfl hp
 | ret=>exact plain rfl hp
 | goto l=>exact plain rfl hp
 | panic c=>exact hp
 | outgrown=>exact hp
#print axioms z_gH
#print axioms z_hT
end Go.Proofs.YtfomhhkoamapmaaGreatDoor.Sx
namespace Go.Proofs.YtfomhhkoamapmaaGreatDoor.Sx
open Go
attribute [local irreducible] Calls
def oldF (W0:World):Fact where
 own:=false
 D:=fun k=>k<W0.heap.size
 p:=fun w=> ∀k,k<W0.heap.size->w.heap[k]?=W0.heap[k]?
 st:=fun w w' hs h k hk=>(hs k hk).trans (h k hk)
theorem Rd.old {W0 w:World} {size:Nat} {A:Option Addr} {n:Nat} {xs:List Value} (h:Rd size A n xs W0) (ho:(oldF W0).p w):Rd size A n xs w:=by
 have hl:=rd_lt h
 refine ⟨h.1,fun hn=>?_⟩
 obtain ⟨ad,hA,hc⟩:=h.2 hn
 refine ⟨ad,hA,fun j u hu=>?_⟩
 rw [<-hc j u hu]
 have hb:(ad.add j).block=ad.block:=by unfold Addr.add;split<;>rfl
 refine World.cell?_of_block ?_
 rw [hb]
 have hj:j<xs.length:=(List.getElem?_eq_some_iff.1 hu).1
 exact ho _ (hl _ ⟨by rw [<-h.1];omega,ad,hA,rfl⟩)
theorem z_aS {cx:Cx} {w:World} (hW:cx.W0=w:=by rfl) (hbs:cx.bs=[]:=by rfl) (hr:cx.rnd=none:=by rfl) (hpn:cx.pn=[]:=by rfl):Sat cx Va.z 0 [] [oldF w] w:=
 (Sat.start hW hbs rfl rfl hr hpn).old (oldF w) (fun _ _=>rfl) (fun _ h=>h) (fun _ h=>by cases h) (fun q=>by cases q) (fun _ h=>by cases h)
theorem z_u9 {P:Program} {k:FuncId} {args:Array Value} {w:World} {e:Nat} {l:List UInt8} (h:Calls P k args w fun en w'=> ∃v,en= .returned v/\ ∃A c,v= .slice A l.length c/\Chg None_ w w'/\NewRow w w' A l c e):
  Con P k args w [] fun v Fs=> ∃A c,v= .slice A l.length c/\l.length<=c/\c<=maxLen/\Fs=[browF e A l c]:=by
 refine Calls.mono h ?_
 rintro en w' ⟨v,rfl,A,c,rfl,hc,hn⟩
 refine ⟨_,rfl,[browF e A l c],⟨A,c,rfl,hn.1,hn.2.1,rfl⟩,by rw [Un.nil];exact hc,⟨fun g hg=>?_,fun g hg k hk=>?_,List.pairwise_singleton _ _⟩,⟨rfl,trivial⟩,fun g hg k hk=>?_⟩
 ·obtain rfl:=List.mem_singleton.1 hg;exact hn.2.2.1
 ·obtain rfl:=List.mem_singleton.1 hg;exact (hn.lt k hk).2
 ·obtain rfl:=List.mem_singleton.1 hg;exact .inr (hn.lt k hk).1
theorem pu_of {P:Program} {k:FuncId} {args:Array Value} {w:World} {v:Value} (h:Calls P k args w fun en w'=> ∃u,en= .returned u/\u=v/\Chg None_ w w'):Pu P k args w v:=by
 refine Calls.mono h ?_
 rintro en w' ⟨u,rfl,rfl,hc⟩
 exact ⟨_,rfl,[],⟨rfl,rfl⟩,by rw [Un.nil];exact hc,⟨fun _ q=>(by cases q),fun _ q=>(by cases q),List.Pairwise.nil⟩,trivial,fun _ q=>(by cases q)⟩
def be:Nat->Nat->List UInt8
 | 0,_=>[]
 | k+1,n=>be k (n/256)++[UInt8.ofNat (n%256)]
theorem z_ay: ∀k n,(be k n).length=k
 | 0,_=>rfl
 | k+1,n=>by simp [be,z_ay k]
theorem ofNat_toNat (n:Nat) (h:n<256):(UInt8.ofNat n).toNat=n:=by simp;omega
theorem z_nd (n:Nat) (h:n<256):byte (UInt8.ofNat n)= .int .u8 (n:Int):=by simp only [byte,ofNat_toNat n h]
theorem wrap_u8 (x:Int):IntKind.u8.wrap x=x%256:=by simp [IntKind.wrap,IntKind.bits,IntKind.signed]
theorem z_x0 (w:World) (n k:Nat) (hn:n<18446744073709551616) (hk:k<=4096):
  Calls Tryz.prog z_cR #[.int .u64 n,.int .i64 k] w fun e w'=> ∃v,e= .returned v/\ ∃A' c',v= .slice A' (be k n).length c'/\Chg None_ w w'/\NewRow w w' A' (be k n) c' z_ab:=by
 have g:=z_ie w None_
 refine z_bh (cx:=z_eM w None_) g z_kV rfl rfl (β:=Va.z) [.c (.v (.int .u64 n)),.c (.v (.int .i64 k))] 0 [] [] rfl rfl (Sat.start rfl) ?_
 refine ⟨k,k,rfl,rfl,Nat.le_refl _,by show 1*k<=_;omega,by rw [maxLen_eq];omega,?_⟩
 intro b
 refine ⟨_,wrap_i64 (by omega) (by omega),?_⟩
 refine z_ag (ι:=Nat×Nat×List UInt8) 0 (fun i=>[(0,.c (.v (.int .u64 i.2.1))),(5,.c (.v (.slice (some ⟨b,0,none⟩) k k))),(6,.c (.v (.int .i64 ((i.1:Int) - 1))))]) (fun _=>[])
  (fun i=>[rowF z_ab 1 (.slice (some ⟨b,0,none⟩) k k) k (List.replicate i.1 (.int .u8 0)++i.2.2.map byte)])
  (fun i=>i.2.1<18446744073709551616/\i.1<=k/\i.1+i.2.2.length=k/\be i.1 i.2.1++i.2.2=be k n) (fun i=>i.1) (k,n,[]) ⟨hn,Nat.le_refl _,by simp,by simp⟩ (Ent.mk' ⟨rfl,rfl,rfl,trivial⟩ rfl ?_) g ?_
 ·intro β w' hs
  have e:repl ti5.zero k=List.replicate k (.int .u8 0)++List.map byte []:=by
   have: ∀k,repl [Value.int .u8 0] k=List.replicate k (.int .u8 0):=fun k=>by
    induction k with
    | zero=>rfl
    | succ k ih=>simp [repl,ih,List.replicate_succ]
   simp only [List.map_nil,List.append_nil]
   exact this k
  rw [<-e]
  exact hs
 rintro ⟨i,m,suf⟩ ⟨hm,hik,hlen,hbe⟩
 simp only at hm hik hlen hbe
 refine BIf.dec (fun h0=>?_) (fun h0=>?_)
 ·obtain ⟨j,rfl⟩: ∃j,i=j+1:=⟨i - 1,by omega⟩
  refine ⟨by omega,((m%256:Nat):Int),by dsimp only;rw [Int.tmod_eq_emod_of_nonneg (by omega)];omega,?_⟩
  refine ⟨((m%256:Nat):Int),by rw [wrap_u8];omega,?_⟩
  refine ⟨⟨b,0,none⟩,j,rfl,by omega,by omega,?_⟩
  refine ⟨_,fun β w' hs=>Sat.rowSet hs (j:=0) (us:=[.int .u8 ((m%256:Nat):Int)]) rfl (by show j*1+1<=k*1;omega) (fun u hu=>by obtain rfl:=List.mem_singleton.1 hu;rfl),?_⟩
  refine ⟨by omega,((m/256:Nat):Int),by dsimp only;rw [z_c7,Int.tdiv_eq_ediv_of_nonneg (by omega)];omega,?_⟩
  refine ⟨((j:Int) - 1),by rw [wrap_i64 (by omega) (by omega)];omega,?_⟩
  refine ⟨(j,m/256,UInt8.ofNat (m%256)::suf),⟨by show m/256<_;omega,by show j<=k;omega,by show j+(suf.length+1)=k;omega,by
   show be j (m/256)++(UInt8.ofNat (m%256)::suf)=_
   rw [<-hbe];simp [be]⟩,by show j<j+1;omega,Ent.mk' ⟨rfl,rfl,rfl,trivial⟩ rfl ?_⟩
  intro β w' hs
  have e:putAll (List.replicate (j+1) (Value.int .u8 0)++suf.map byte) (j*1) [.int .u8 ((m%256:Nat):Int)]=List.replicate j (.int .u8 0)++(UInt8.ofNat (m%256)::suf).map byte:=by
   rw [putAll,putAll,z_aT,Nat.mul_one,List.replicate_succ',List.append_assoc,List.set_append_right _ _ (by simp)]
   simp [z_nd _ (Nat.mod_lt m (by omega:0<256))]
  rw [<-e]
  exact hs
 ·intro β w' hs
  have hi:i=0:=by omega
  subst hi
  simp only [be,List.nil_append] at hbe
  refine ⟨some ⟨b,0,none⟩,k,by rw [z_ay];rfl,hs.chg,hs.newRow rfl 0 ?_ (by rw [z_ay];omega) (by rw [maxLen_eq];omega)⟩
  rw [<-hbe] at *
  show some (rowF _ 1 (.slice _ k k) k _)=some (rowF _ 1 (.slice _ suf.length k) suf.length _)
  rw [show suf.length=k by omega]
  rfl
end Go.Proofs.YtfomhhkoamapmaaGreatDoor.Sx
namespace Go.Proofs.YtfomhhkoamapmaaGreatDoor.Sx
open Go
def u32 (x:UInt32):Value:= .int .u32 (x.toNat:Int)
theorem z_lV (x:Int):IntKind.u32.wrap x=x%4294967296:=by simp [IntKind.wrap,IntKind.bits,IntKind.signed]
theorem z_pL (x:Nat):IntKind.u32.wrap (x:Int)=((UInt32.ofNat x).toNat:Int):=by
 rw [z_lV,UInt32.toNat_ofNat']
 omega
theorem add32 (a b:UInt32):IntKind.u32.wrap ((a.toNat:Int)+(b.toNat:Int))=((a+b).toNat:Int):=by
 rw [z_lV,UInt32.toNat_add]
 omega
theorem ofInt32 (a:UInt32):BitVec.ofInt 32 (a.toNat:Int)=a.toBitVec:=by
 apply BitVec.eq_of_toNat_eq
 rw [BitVec.toNat_ofInt]
 have:=a.toNat_lt
 have e:a.toBitVec.toNat=a.toNat:=rfl
 rw [e]
 omega
theorem back32 (x:BitVec 32):IntKind.u32.wrap (x.toNat:Int)=((UInt32.ofBitVec x).toNat:Int):=by
 rw [z_lV]
 have:=x.isLt
 have e:(UInt32.ofBitVec x).toNat=x.toNat:=rfl
 rw [e]
 omega
theorem xor32 (a b:UInt32):bits .xor .u32 (a.toNat:Int) (b.toNat:Int)=((a^^^b).toNat:Int):=by
 show IntKind.u32.wrap (((BitVec.ofInt 32 (a.toNat:Int))^^^(BitVec.ofInt 32 (b.toNat:Int))).toNat:Int)=_
 rw [ofInt32,ofInt32,back32]
 rfl
theorem and32 (a b:UInt32):bits .and .u32 (a.toNat:Int) (b.toNat:Int)=((a&&&b).toNat:Int):=by
 show IntKind.u32.wrap (((BitVec.ofInt 32 (a.toNat:Int))&&&(BitVec.ofInt 32 (b.toNat:Int))).toNat:Int)=_
 rw [ofInt32,ofInt32,back32]
 rfl
theorem or32 (a b:UInt32):bits .or .u32 (a.toNat:Int) (b.toNat:Int)=((a ||| b).toNat:Int):=by
 show IntKind.u32.wrap (((BitVec.ofInt 32 (a.toNat:Int)) ||| (BitVec.ofInt 32 (b.toNat:Int))).toNat:Int)=_
 rw [ofInt32,ofInt32,back32]
 rfl
theorem not32 (a:UInt32):bits .xor .u32 (if IntKind.u32.signed then -1 else IntKind.u32.max) (a.toNat:Int)=((~~~ a).toNat:Int):=by
 show IntKind.u32.wrap (((BitVec.ofInt 32 4294967295)^^^(BitVec.ofInt 32 (a.toNat:Int))).toNat:Int)=_
 rw [ofInt32,back32]
 have e:UInt32.ofBitVec (BitVec.ofInt 32 4294967295^^^a.toBitVec)= ~~~ a:=by
  apply UInt32.toBitVec_inj.1
  show BitVec.ofInt 32 4294967295^^^a.toBitVec= ~~~ a.toBitVec
  have:BitVec.ofInt 32 4294967295=BitVec.allOnes 32:=by decide
  rw [this,BitVec.allOnes_xor]
 rw [e]
theorem shl32 (a:UInt32) (n:Nat) (hn:n<32):IntKind.u32.wrap ((a.toNat:Int)*2^(min (n:Int).toNat IntKind.u32.bits))=((a<<<UInt32.ofNat n).toNat:Int):=by
 have h1:min (n:Int).toNat IntKind.u32.bits=n:=by show min n 32=n;omega
 rw [h1,z_lV,UInt32.toNat_shiftLeft,UInt32.toNat_ofNat',Nat.mod_eq_of_lt (show n<2^32 by omega),Nat.mod_eq_of_lt hn,Nat.shiftLeft_eq]
 have:((a.toNat:Int)*2^n)=((a.toNat *2^n:Nat):Int):=by push_cast;rfl
 rw [this]
 omega
theorem shr32 (a:UInt32) (n:Nat) (hn:n<32):(a.toNat:Int).fdiv (2^(min (n:Int).toNat IntKind.u32.bits))=((a>>>UInt32.ofNat n).toNat:Int):=by
 have h1:min (n:Int).toNat IntKind.u32.bits=n:=by show min n 32=n;omega
 rw [h1,UInt32.toNat_shiftRight,UInt32.toNat_ofNat',Nat.mod_eq_of_lt (show n<2^32 by omega),Nat.mod_eq_of_lt hn,Nat.shiftRight_eq_div_pow]
 have:(2^n:Int)=((2^n:Nat):Int):=by push_cast;rfl
 rw [this,Int.fdiv_eq_ediv_of_nonneg _ (Int.natCast_nonneg _)]
 exact (Int.natCast_ediv _ _).symm
#print axioms shr32
end Go.Proofs.YtfomhhkoamapmaaGreatDoor.Sx
namespace Go.Proofs.YtfomhhkoamapmaaGreatDoor.Sha
def K:List UInt32:=[
  0x428a2f98,0x71374491,0xb5c0fbcf,0xe9b5dba5,0x3956c25b,0x59f111f1,0x923f82a4,0xab1c5ed5,
  0xd807aa98,0x12835b01,0x243185be,0x550c7dc3,0x72be5d74,0x80deb1fe,0x9bdc06a7,0xc19bf174,
  0xe49b69c1,0xefbe4786,0x0fc19dc6,0x240ca1cc,0x2de92c6f,0x4a7484aa,0x5cb0a9dc,0x76f988da,
  0x983e5152,0xa831c66d,0xb00327c8,0xbf597fc7,0xc6e00bf3,0xd5a79147,0x06ca6351,0x14292967,
  0x27b70a85,0x2e1b2138,0x4d2c6dfc,0x53380d13,0x650a7354,0x766a0abb,0x81c2c92e,0x92722c85,
  0xa2bfe8a1,0xa81a664b,0xc24b8b70,0xc76c51a3,0xd192e819,0xd6990624,0xf40e3585,0x106aa070,
  0x19a4c116,0x1e376c08,0x2748774c,0x34b0bcb5,0x391c0cb3,0x4ed8aa4a,0x5b9cca4f,0x682e6ff3,
  0x748f82ee,0x78a5636f,0x84c87814,0x8cc70208,0x90befffa,0xa4506ceb,0xbef9a3f7,0xc67178f2]
def rotr (x:UInt32) (n:Nat):UInt32:=x>>>UInt32.ofNat n ||| x<<<UInt32.ofNat (32 - n)
theorem z_yO (x:UInt32) (n:Nat):x<<<UInt32.ofNat (32 - n) ||| x>>>UInt32.ofNat n=rotr x n:=by unfold rotr;exact UInt32.or_comm _ _
def word (a b c d:UInt8):UInt32:=UInt32.ofNat (a.toNat *16777216+b.toNat *65536+c.toNat *256+d.toNat)
def wordAt (p:List UInt8) (i:Nat):UInt32:=word (p.getD (4*i) 0) (p.getD (4*i+1) 0) (p.getD (4*i+2) 0) (p.getD (4*i+3) 0)
def s0 (a:UInt32):UInt32:=rotr a 7^^^rotr a 18^^^a>>>3
def s1 (b:UInt32):UInt32:=rotr b 17^^^rotr b 19^^^b>>>10
def nxt (w:List UInt32) (i:Nat):UInt32:=w.getD (i - 16) 0+s0 (w.getD (i - 15) 0)+w.getD (i - 7) 0+s1 (w.getD (i - 2) 0)
def sched (p:List UInt8):Nat->List UInt32
 | 0=>[]
 | n+1=>let w:=sched p n;w++[if n<16 then wordAt p n else nxt w n]
theorem z_gn (p:List UInt8): ∀n,(sched p n).length=n
 | 0=>rfl
 | n+1=>by simp [sched,z_gn p n]
def W (p:List UInt8):List UInt32:=sched p 64
theorem W_len (p:List UInt8):(W p).length=64:=z_gn p 64
structure S8 where
 a:UInt32
 b:UInt32
 c:UInt32
 d:UInt32
 e:UInt32
 f:UInt32
 g:UInt32
 h:UInt32
def S8.l (s:S8):List UInt32:=[s.a,s.b,s.c,s.d,s.e,s.f,s.g,s.h]
def first:S8:=⟨0x6a09e667,0xbb67ae85,0x3c6ef372,0xa54ff53a,0x510e527f,0x9b05688c,0x1f83d9ab,0x5be0cd19⟩
def S8.x (s:S8) (k w:UInt32):UInt32:=s.h+(rotr s.e 6^^^rotr s.e 11^^^rotr s.e 25)+(s.e&&&s.f^^^ ~~~ s.e&&&s.g)+k+w
def S8.y (s:S8):UInt32:=rotr s.a 2^^^rotr s.a 13^^^rotr s.a 22
def S8.z (s:S8):UInt32:=s.a&&&s.b^^^s.a&&&s.c^^^s.b&&&s.c
def S8.round (s:S8) (k w:UInt32):S8:=⟨s.x k w+s.y+s.z,s.a,s.b,s.c,s.d+s.x k w,s.e,s.f,s.g⟩
def rounds (s:S8) (w:List UInt32):Nat->S8
 | 0=>s
 | n+1=>(rounds s w n).round (K.getD n 0) (w.getD n 0)
def S8.add (s t:S8):S8:=⟨s.a+t.a,s.b+t.b,s.c+t.c,s.d+t.d,s.e+t.e,s.f+t.f,s.g+t.g,s.h+t.h⟩
def step (s:S8) (p:List UInt8):S8:=s.add (rounds s (W p) 64)
def go:Nat->S8->List UInt8->S8
 | 0,s,_=>s
 | n+1,s,p=>go n (step s (p.take 64)) (p.drop 64)
def b4 (x:UInt32):List UInt8:=[(x>>>24).toUInt8,(x>>>16).toUInt8,(x>>>8).toUInt8,x.toUInt8]
def out (s:S8):List UInt8:=s.l.flatMap b4
def long (n:Nat):List UInt8:=[56,48,40,32,24,16,8,0].map fun k=>UInt8.ofNat (n/2^k)
def zeros (n:Nat):Nat:=(119 - n%64)%64
def ends (n:Nat):List UInt8:=0x80::(List.replicate (zeros n) 0++long (8*n))
theorem z_wI (n:Nat):(long n).length=8:=rfl
theorem ends_len (n:Nat):(ends n).length=9+zeros n:=by simp [ends,z_wI];omega
theorem pad_mod (p:List UInt8):(p++ends p.length).length%64=0:=by
 rw [List.length_append,ends_len];unfold zeros;omega
def sum (p:List UInt8):List UInt8:=let q:=p++ends p.length;out (go (q.length/64) first q)
end Go.Proofs.YtfomhhkoamapmaaGreatDoor.Sha
namespace Go.Proofs.YtfomhhkoamapmaaGreatDoor.Nam
structure Fm where
 size:Nat
 mask:UInt8
 lead:UInt8
 least:Nat
def fms:List Fm:=[⟨1,0x80,0,0⟩,⟨2,0xe0,0xc0,0x80⟩,⟨3,0xf0,0xe0,0x800⟩,⟨4,0xf8,0xf0,0x10000⟩]
def sign (r:Nat):Bool:=decide (r<=1114111)&&(decide (r<55296) || decide (57343<r))
def tailR:List UInt8->Nat->Option Nat
 | [],r=>some r
 | b::t,r=>if b.toNat/64=2 then tailR t (r*64+b.toNat%64) else none
theorem tailR_none: ∀ {l:List UInt8} {r:Nat},(∃b∈l,b.toNat/64≠2)->tailR l r=none
 | [],_,⟨_,h,_⟩=>by cases h
 | x::t,r,⟨b,hb,hn⟩=>by
  simp only [tailR]
  split
  ·rename_i hx
   rcases List.mem_cons.1 hb with rfl | hb
   ·exact absurd hx hn
   ·exact tailR_none ⟨b,hb,hn⟩
  ·rfl
def fits (f:Fm) (s:List UInt8):Bool:=match s with
 | []=>false
 | b::_=>decide (b&&&f.mask=f.lead)&&decide (f.size<=s.length)
def tryF (f:Fm) (s:List UInt8):Option Nat:=match s with
 | []=>none
 | b::t=>match tailR (t.take (f.size - 1)) (b&&& ~~~f.mask).toNat with
  | some r=>if f.least<=r/\sign r=true then some r else none
  | none=>none
def decL (s:List UInt8):Option Nat×Nat:=match fms.find? fun f=>fits f s with
 | some f=>match tryF f s with
  | some r=>(some r,f.size)
  | none=>(none,1)
 | none=>(none,1)
theorem decL_size {s:List UInt8} (hs:s≠[]):1<=(decL s).2/\(decL s).2<=s.length:=by
 have h1:0<s.length:=List.length_pos_iff.2 hs
 unfold decL
 split
 ·rename_i f hf
  have hff:=List.find?_some hf
  have hm:=List.mem_of_find?_eq_some hf
  have hsz:1<=f.size:=by
   simp only [fms,List.mem_cons,List.not_mem_nil,or_false] at hm
   rcases hm with rfl | rfl | rfl | rfl<;>decide
  have hle:f.size<=s.length:=by
   unfold fits at hff
   split at hff
   ·cases hff
   ·simp only [Bool.and_eq_true,decide_eq_true_eq] at hff
    exact hff.2
  split
  ·exact ⟨hsz,hle⟩
  ·exact ⟨Nat.le_refl 1,h1⟩
 ·exact ⟨Nat.le_refl 1,h1⟩
theorem u8_all {p:UInt8->Prop} (h: ∀n:Fin 256,p (UInt8.ofNat n.1)) (b:UInt8):p b:=by
 have:=h ⟨b.toNat,b.toNat_lt⟩
 simpa using this
theorem z_wn (b:UInt8): ∀f∈fms,∀g∈fms,b&&&f.mask=f.lead->b&&&g.mask=g.lead->f.size=g.size:=by
 have h: ∀n:Fin 256,∀f∈fms,∀g∈fms,(UInt8.ofNat n.1)&&&f.mask=f.lead->(UInt8.ofNat n.1)&&&g.mask=g.lead->f.size=g.size:=by
  have key: ∀n:Fin 256,(fms.all fun f=>fms.all fun g=>!decide ((UInt8.ofNat n.1)&&&f.mask=f.lead) || !decide ((UInt8.ofNat n.1)&&&g.mask=g.lead) || decide (f.size=g.size))=true:=by decide+kernel
  intro n f hf g hg h1 h2
  have:=List.all_eq_true.1 (List.all_eq_true.1 (key n) f hf) g hg
  simp only [Bool.or_eq_true,Bool.not_eq_true',decide_eq_false_iff_not,decide_eq_true_eq] at this
  rcases this with (q | q) | q
  ·exact absurd h1 q
  ·exact absurd h2 q
  ·exact q
 exact u8_all (p:=fun b=> ∀f∈fms,∀g∈fms,b&&&f.mask=f.lead->b&&&g.mask=g.lead->f.size=g.size) h b
theorem z_wf: ∀f∈fms,∀g∈fms,f.size=g.size->f=g:=by
 intro f hf g hg h
 simp only [fms,List.mem_cons,List.not_mem_nil,or_false] at hf hg
 rcases hf with rfl | rfl | rfl | rfl<;>rcases hg with rfl | rfl | rfl | rfl<;>first | rfl | cases h
theorem find_form {b:UInt8} {t:List UInt8} {f:Fm} (hf:f∈fms) (hb:b&&&f.mask=f.lead):fms.find? (fun g=>fits g (b::t))=if f.size<=(b::t).length then some f else none:=by
 cases hq:fms.find? (fun g=>fits g (b::t)) with
 | none=>
  have h:=List.find?_eq_none.1 hq f hf
  rw [if_neg]
  intro q
  exact h (by simp only [fits,Bool.and_eq_true,decide_eq_true_eq];exact ⟨hb,q⟩)
 | some g=>
  have hg:=List.mem_of_find?_eq_some hq
  have h1:=List.find?_some hq
  simp only [fits,Bool.and_eq_true,decide_eq_true_eq] at h1
  obtain rfl:=z_wf g hg f hf (z_wn b g hg f hf h1.1 hb)
  rw [if_pos h1.2]
theorem find_none {b:UInt8} {t:List UInt8} (h: ∀f∈fms,¬b&&&f.mask=f.lead):fms.find? (fun g=>fits g (b::t))=none:=by
 refine List.find?_eq_none.2 fun f hf q=>?_
 simp only [fits,Bool.and_eq_true,decide_eq_true_eq] at q
 exact h f hf q.1
def runes:List UInt8->List (Option Nat)
 | []=>[]
 | b::t=>(decL (b::t)).1::runes ((b::t).drop (decL (b::t)).2)
termination_by s=>s.length
decreasing_by
 have:=decL_size (s:=b::t) (by simp)
 simp only [List.length_drop,List.length_cons] at this ⊢
 omega
theorem runes_nil:runes []=[]:=by rw [runes]
theorem runes_cons {s:List UInt8} (hs:s≠[]):runes s=(decL s).1::runes (s.drop (decL s).2):=by
 cases s with
 | nil=>exact absurd rfl hs
 | cons b t=>rw [runes]
end Go.Proofs.YtfomhhkoamapmaaGreatDoor.Nam
namespace Go.Proofs.YtfomhhkoamapmaaGreatDoor.Sx
open Go
section
variable {cx:Cx} {n:Nat} {env:Env} {H:List Bk} {F:List Fact}
theorem z_oP {α:Type}: ∀(k o:Nat) (l:List α),o+k<=l.length->takeAt l o k=some ((l.drop o).take k)
 | 0,o,l,_=>by simp [takeAt]
 | k+1,o,l,h=>by
  have ho:o<l.length:=by omega
  rw [takeAt,z_aX,List.getElem?_eq_getElem ho]
  simp only [z_oP k (o+1) l (by omega)]
  rw [List.drop_eq_getElem_cons ho,List.take_succ_cons]
theorem z_p5 {α:Type} {l:List α} {k:Nat} (h:l.length=k):takeAt l 0 k=some l:=by
 rw [z_oP k 0 l (by omega),List.drop_zero,<-h,List.take_length]
theorem z_nb {α:Type}: ∀(ys l:List α) (o:Nat),o+ys.length<=l.length->putAll l o ys=l.take o++ys++l.drop (o+ys.length)
 | [],l,o,h=>by simp [putAll]
 | y::ys,l,o,h=>by
  simp only [List.length_cons] at h
  rw [putAll,z_nb ys _ _ (by rw [z_aT,List.length_set];omega),z_aT]
  rw [List.take_set,List.drop_set_of_lt (by omega)]
  rw [List.take_succ_eq_append_getElem (by omega),List.set_append_right _ _ (by simp;omega)]
  have e1:o - (List.take o l).length=0:=by simp;omega
  rw [e1,List.set_cons_zero,List.length_cons,show o+1+ys.length=o+(ys.length+1) by omega]
  simp
theorem z_og {α:Type} {ys l:List α} (h:ys.length=l.length):putAll l 0 ys=ys:=by
 rw [z_nb _ _ _ (by omega),Nat.zero_add,h,List.drop_length];simp
theorem z_v5 {xs:List SL} (h: ∀x∈xs,x.one=true):allOne xs=true:=by
 induction xs with
 | nil=>rfl
 | cons x r ih=>
  simp only [allOne]
  rw [h x List.mem_cons_self]
  exact ih (fun y hy=>h y (List.mem_cons_of_mem _ hy))
theorem z_xG {b:Bool} {X:Prop}:b=true->X->match b with | true=>X | false=>False:=fun h hk=>by subst h;exact hk
end
end Go.Proofs.YtfomhhkoamapmaaGreatDoor.Sx
