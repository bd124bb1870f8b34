/- Texts joined: Tpk, Tkk, SxMid, Tpj, OpT, Tpn, EqU, Mk2, BxT, Tpm, TabR, Tabs, Hnd, SxArg, Laid, Laid2. -/
import Derived.Test.YtfomhhkoamapmaaGreatDoorMTicketPlays6
import Derived.Test.YtfomhhkoamapmaaGreatDoorMTicketPlays5
import Derived.Test.YtfomhhkoamapmaaGreatDoorMTicketPlays2
import Derived.Test.YtfomhhkoamapmaaGreatDoorMTicketPlays3
import Derived.Test.YtfomhhkoamapmaaGreatDoorMTicketPlays4
import Derived.Handed
import Derived.Shelf.Vars
import Derived.Below
import Derived.OpenShut
import Derived.ChangeArms
import Derived.LaidMore
set_option linter.unusedVariables false
set_option linter.unusedSimpArgs false
namespace Go.Proofs.YtfomhhkoamapmaaGreatDoor.Sx
open Go
attribute [local irreducible] Calls
open Classical in
theorem z_vd {r:Rg} {x:RR} {B:Bx.Box} {d:Dk} {q:RD} {p:PR} {n now2:Nat} (ten usr rol:List UInt8) (gen:Nat) (hI:DoI r x B d q p n) (hn:n<=40) (hw:now2<=p.now+199):
  ∃(tx:List UInt8) (tt:Tk) (e:Int) (B2:Bx.Box) (d2:Dk) (q2:Option Addr->Nat->RD),
   (∀v Fs,mntOut r d B ⟨r.ep,d.serial+1,now2,addTk now2 d.life,gen,ten,usr,rol⟩ v Fs-> ∃y2,y2.ts.map (·.1)=B2.L/\v= .tuple #[.string (mkS tx),tt.v,.int .i64 e]/\Fs=[dkF d2,rgF r,bxF r.bx B2 y2])/\
   (∀v Fs,rmntOut q x B (r.ky (x.epoch:Int)) ⟨x.epoch,q.serial+1,now2,addTk now2 q.life,gen,ten,usr,rol⟩ v Fs-> ∃A c z2,z2.ts.map (·.1)=B2.L/\v= .tuple #[.string (mkS tx),tt.v,.int .i64 e]/\Fs=[rdkF (q2 A c),rbxF x.bx B2 z2,rrF x])/\
   (e=0->0<tx.length/\tx.length<=300)/\(∀A c,(q2 A c).b=q.b)/\d2.b=d.b/\ ∀A c,DoI r x B2 d2 (q2 A c) {p with now:=now2} (n+1):=by
 have hep:=hI.ri.ep
 have hepn:=hI.ri.epn
 have hlen:=hI.ri.len
 have h1:=hI.ep1
 have hn0:=hI.next (B':=B) (now2:=now2) hn (Pre.refl _) hI.ri.inv (Nat.le_succ _) hw
 obtain ⟨t',ht'⟩: ∃t':Tk,t'=⟨x.epoch,q.serial+1,now2,addTk now2 q.life,gen,ten,usr,rol⟩:=⟨_,rfl⟩
 rw [<-ht',hI.ser,hI.life]
 have no: ∀(t:Tk) (e:Int),(t.Right↔t'.Right)->((¬t'.Right/\e=4)\/(t'.Right/\r.ky (r.epoch:Int)=none/\e=15))->
   (∀v Fs,mntOut r d B t v Fs-> ∃y2,y2.ts.map (·.1)=B.L/\v= .tuple #[.string (mkS []),tk0.v,.int .i64 e]/\Fs=[dkF d,rgF r,bxF r.bx B y2])/\
   (∀v Fs,rmntOut q x B (r.ky (x.epoch:Int)) t' v Fs-> ∃(_:Option Addr) (_:Nat) (z2:Lay),z2.ts.map (·.1)=B.L/\v= .tuple #[.string (mkS []),tk0.v,.int .i64 e]/\Fs=[rdkF q,rbxF x.bx B z2,rrF x]):=by
  intro t e hiff he
  constructor
  ·rintro v Fs (⟨k,y',hR,hk,_⟩ | ⟨e',y',he',rfl,hy,rfl⟩)
   ·rcases he with ⟨h,_⟩ | ⟨_,h,_⟩
    ·exact absurd (hiff.1 hR) h
    ·rw [h] at hk;cases hk
   ·refine ⟨y',hy,?_,rfl⟩
    rcases he with ⟨h,rfl⟩ | ⟨h,hk,rfl⟩<;>rcases he' with ⟨h',rfl⟩ | ⟨h',hk',rfl⟩
    ·rfl
    ·exact absurd (hiff.1 h') h
    ·exact absurd (hiff.2 h) h'
    ·rfl
  ·rintro v Fs (⟨k,y',A,c,hR,hk,_⟩ | ⟨e',y',he',rfl,hy,rfl⟩)
   ·rw [hep] at hk
    rcases he with ⟨h,_⟩ | ⟨_,h,_⟩
    ·exact absurd hR h
    ·rw [h] at hk;cases hk
   ·refine ⟨none,0,y',hy,?_,rfl⟩
    rcases he with ⟨h,rfl⟩ | ⟨h,hk,rfl⟩<;>rcases he' with ⟨h',rfl⟩ | ⟨h',hk',rfl⟩
    ·rfl
    ·exact absurd h' h
    ·exact absurd h h'
    ·rfl
 cases hk:r.key (r.epoch:Int) with
 | none=>
  have hky:r.ky (r.epoch:Int)=none:=by unfold Rg.ky;rw [hk];rfl
  have hre:r.ep=1:=by unfold Rg.ep;rw [hk]
  have hiff:(⟨r.ep,q.serial+1,now2,addTk now2 q.life,gen,ten,usr,rol⟩:Tk).Right↔t'.Right:=by
   rw [ht',hre]
   constructor
   ·rintro ⟨a1,a2,a3,_,_,a4,a5,a6,a7,a8,a9⟩
    exact ⟨a1,a2,a3,by show 1<=x.epoch;omega,by show x.epoch<=_;omega,a4,a5,a6,a7,a8,a9⟩
   ·rintro ⟨a1,a2,a3,_,_,a4,a5,a6,a7,a8,a9⟩
    exact ⟨a1,a2,a3,by show 1<=1;decide,by show 1<=_;decide,a4,a5,a6,a7,a8,a9⟩
  by_cases hR:t'.Right
  ·obtain ⟨n1,n2⟩:=no _ 15 hiff (.inr ⟨hR,hky,rfl⟩)
   exact ⟨[],tk0,15,B,d,fun _ _=>q,n1,n2,fun h=>absurd h (by decide),fun _ _=>rfl,rfl,fun _ _=>hn0⟩
  ·obtain ⟨n1,n2⟩:=no _ 4 hiff (.inl ⟨hR,rfl⟩)
   exact ⟨[],tk0,4,B,d,fun _ _=>q,n1,n2,fun h=>absurd h (by decide),fun _ _=>rfl,rfl,fun _ _=>hn0⟩
 | some k=>
  have hky:r.ky (r.epoch:Int)=some k.p:=by unfold Rg.ky;rw [hk];rfl
  have hre:r.ep=r.epoch:=by unfold Rg.ep;rw [hk]
  have htt:(⟨r.ep,q.serial+1,now2,addTk now2 q.life,gen,ten,usr,rol⟩:Tk)=t':=by rw [ht',hre,hep]
  rw [htt]
  by_cases hR:t'.Right
  rotate_left
  ·obtain ⟨n1,n2⟩:=no t' 4 Iff.rfl (.inl ⟨hR,rfl⟩)
   exact ⟨[],tk0,4,B,d,fun _ _=>q,n1,n2,fun h=>absurd h (by decide),fun _ _=>rfl,rfl,fun _ _=>hn0⟩
  have hkp:k.p.length=32:=(hI.ri.keys k (List.mem_of_find?_eq_some hk)).1
  obtain ⟨g1,g2,g3,g4⟩:=z_n8 (k:=k.p) (b:=bodyL t') hI.ri.inv (by omega) (by omega) (Nat.le_trans (z_n9 hR).1 (by decide))
  have hnx:=hI.next (now2:=now2) hn g1 g2 g3 hw
  have hts:t'.serial=q.serial+1:=by rw [ht']
  have htl:t'.til<18446744073709551616:=by have:=hR.le;omega
  refine ⟨tkTxt t' (macB B k.p (labL++bodyL t')).1,t',0,(macB B k.p (labL++bodyL t')).2,d.more t',fun A c=> {q with serial:=q.serial+1,A:=A,c:=c,L:=q.L++[⟨q.serial+1,t'.til,false⟩]},?_,?_,?_,fun _ _=>rfl,rfl,?_⟩
  ·rintro v Fs (⟨k',y',_,hk',rfl,hy,rfl⟩ | ⟨e',y',he',_⟩)
   ·rw [hky] at hk'
    obtain rfl:=Option.some.inj hk'
    exact ⟨y',hy,rfl,rfl⟩
   ·rcases he' with ⟨h',_⟩ | ⟨_,h',_⟩
    ·exact absurd hR h'
    ·rw [hky] at h';cases h'
  ·rw [hep,hky]
   rintro v Fs (⟨k',z',A,c,_,hk',rfl,hz,rfl⟩ | ⟨e',y',he',_⟩)
   ·obtain rfl:=Option.some.inj hk'
    exact ⟨A,c,z',hz,rfl,rfl⟩
   ·rcases he' with ⟨h',_⟩ | ⟨_,h',_⟩
    ·exact absurd hR h'
    ·cases h'
  ·intro _
   refine ⟨?_,z_r1 hR g4⟩
   unfold tkTxt
   rw [List.length_append,List.length_cons]
   omega
  ·intro A c
   have hsn:=hI.sn
   have hser:=hI.ser
   have hkn:=hI.kn.put t'.til htl
   rw [hser] at hkn
   refine ⟨hnx.ri,hnx.ep1,hnx.drb,hnx.qrb,?_,?_,hnx.life,?_,hnx.now,hnx.ll,hnx.txt,hnx.pd,hnx.pr,hnx.pq⟩
   ·show d.serial+1=q.serial+1
    rw [hser]
   ·show q.serial+1<=n+1
    omega
   ·show KnI (iput d.to (t'.serial:Int) (.int .u64 (t'.til:Int))) d.rv (q.L++[⟨q.serial+1,t'.til,false⟩]) (d.serial+1)
    rw [hts,hser]
    exact hkn
end Go.Proofs.YtfomhhkoamapmaaGreatDoor.Sx
namespace Go.Proofs.YtfomhhkoamapmaaGreatDoor.Sx
open Go
attribute [local irreducible] Calls
theorem z_pO (w:World) (s:ByteArray) (k:Nat) (hk:k<=1000000):Pu Tryz.prog z_cl #[.string s,.int .i64 k] w (.string (mkS (s.data.toList.take k))):=by
 refine pu_of (z_bh (cx:=z_dK w None_) (z_hi w None_) z_iF rfl rfl (β:=Va.z) [.c (.v (.string s)),.c (.v (.int .i64 k))] 0 [] [] rfl rfl (Sat.start rfl) ?_)
 refine ⟨((min s.size k:Nat):Int),by dsimp only;omega,?_⟩
 refine ⟨min s.size k,0,rfl,rfl,by omega,Nat.zero_le _,?_⟩
 intro β w' hs
 refine ⟨?_,hs.chg⟩
 have e:s.data.toList.take k=s.data.toList.take (min s.size k):=by
  rw [List.take_eq_take_min,show s.data.toList.length=s.size from rfl,Nat.min_comm]
 rw [e,<-z_qw,z_xH]
 rfl
def Tk.few (t:Tk):Tk:= {t with ten:=t.ten.take 40,usr:=t.usr.take 40,rol:=t.rol.take 40}
def z_ys:Plan:= .take 0 (.take 1 (.take 2 (.take 4 (.take 5 (.take 6 (.take 8 (.take 9 (.take 10 (.exec 3 (.exec 7 (.exec 11 (.take 12 (.take 13 (.brk 14 .done))))))))))))))
theorem z_wA (w:World) (t:Tk):Con Tryz.prog z_gD #[.agg t.cells.toArray] w [] fun v Fs=>v= .agg t.few.cells.toArray/\Fs=[]:=by
 have g:=z_jH w (Un [])
 refine z_ac (cx:=z_fS w (Un [])) g z_l9 rfl rfl (β:=Va.z) [.agg (t.cells.map SL.v)] 0 [] [] rfl rfl (Sat.start rfl) ?_
 refine z_af g z_ys (by kernel_rfl) [⟨1,z_ad,tk0.cells.map SL.v⟩,⟨0,z_ad,t.cells.map SL.v⟩] [] Sub.refl ?_
 have ct: ∀(l:List UInt8) (w':World),Pu Tryz.prog z_cl #[.string (mkS l),.int .i64 40] w' (.string (mkS (l.take 40))):=fun l w'=>by
  have h:=z_pO w' (mkS l) 40 (by decide)
  rw [z_eq] at h
  exact h
 refine z_ah (fun β w' hs=>ct t.ten w') ?_
 refine ⟨Sub.refl,?_⟩
 refine z_ah (fun β w' hs=>ct t.usr w') ?_
 refine ⟨Sub.refl,?_⟩
 refine z_ah (fun β w' hs=>ct t.rol w') ?_
 refine ⟨Sub.refl,?_⟩
 intro β w' hs
 exact (hs.keepB (List.nil_sublist _)).fin [] ⟨rfl,rfl⟩
end Go.Proofs.YtfomhhkoamapmaaGreatDoor.Sx
namespace Go.Proofs.YtfomhhkoamapmaaGreatDoor.Sx
open Go
structure RTri (cx:Cx) (ops:Array Oper) (l:List Oper) (Q:Exit->KT) (n:Nat) (env:Env) (H:List Bk) (F:List Fact):Prop where
 run: ∀β a w,Inv cx β n env H F a w->wpListIn cx.fence 0 cx.P ops (Post cx Q) l a w
theorem z_qp {cx:Cx} {n:Nat} {env:Env} {H:List Bk} {F:List Fact} {t:Operand} {x y:Code} {Q:Exit->KT} {b:Bool} (hb:ev env t=some (.c (.v (.bool b)))) (hT:b=true->Tri cx x Q n env H F) (hF:b=false->Tri cx y Q n env H F):Tri cx (.cond t x y) Q n env H F:=
 ⟨fun β a w h=>wpIn_cond_split (h.ev hb).1 (fun q=>(hT q).run β a w h) (fun q=>(hF q).run β a w h)⟩
section
variable {cx:Cx} {n:Nat} {env:Env} {H:List Bk} {F:List Fact} {ops:Array Oper} {l:List Oper} {Q:Exit->KT}
theorem z_w2 (g:Good cx) {id:Nat} (k:Nat) (h:rwp cx ops.toList (ops.toList.take k) (fun n env H F=>RTri cx ops (ops.toList.drop k) Q n env H F) n env H F):Tri cx (.region id ops false) Q n env H F:=by
 refine ⟨fun β a w hi=>wpIn_region_list ?_⟩
 have key:wpListIn cx.fence 0 cx.P ops (Post cx Q) (ops.toList.take k++ops.toList.drop k) a w:=z_kt g _ _ hi h (fun a w ⟨β',n',env',H',F',h',hp⟩=>hp.run β' a w h')
 rw [List.take_append_drop] at key
 exact key
theorem z_wZ (g:Good cx) (h:rwp cx ops.toList l (Q .normal) n env H F):RTri cx ops l Q n env H F:=
 ⟨fun _ _ _ hi=>z_jU g l hi h (fun _ _ q=>q)⟩
theorem z_um (id:Nat) {ty:TypeId} {cs:List SL} (vs:Nat->List Value) (h1:tyAt H id=some ty) (h2:cellsAt H id=some cs) (h3: ∀b,allV (cs.map (SL.re id b))=some (vs b))
  (h: ∀b,RTri cx ops l Q n (envRe id b env) (bksRe id b H) (bkF b ty (vs b)::F)):RTri cx ops l Q n env H F:=by
 refine ⟨fun β a w hi=>?_⟩
 refine (h (β id)).run β a w ⟨fun t s ht=>?_,hi.size,hi.df,fun t s ht=>?_,hi.sat.reify id h1 h2 (h3 (β id))⟩
 ·obtain ⟨u,hu,rfl⟩:=z_fL ht
  rw [SV.re_val rfl];exact hi.ag t u hu
 ·obtain ⟨u,hu,rfl⟩:=z_fL ht
  exact SV.re_lt (hi.lte t u hu)
theorem z_wq {F':List Fact} (hS: ∀β w,Sat cx β n H F w->Sat cx β n H F' w) (h:RTri cx ops l Q n env H F'):RTri cx ops l Q n env H F:=
 ⟨fun β a w hi=>h.run β a w ⟨hi.ag,hi.size,hi.df,hi.lte,hS β w hi.sat⟩⟩
end
end Go.Proofs.YtfomhhkoamapmaaGreatDoor.Sx
namespace Go.Proofs.YtfomhhkoamapmaaGreatDoor.Sx
open Go
attribute [local irreducible] Calls
set_option maxHeartbeats 4000000 in
theorem z_zO (w:World) (r:Rg) (x:RR) (B:Bx.Box) (d:Dk) (q:RD) (p:PR) (y z:Lay) (n:Nat) (o:OpD) (hI:DoI r x B d q p n) (hn:n<=30) (hy:y.ts.map (·.1)=B.L) (hz:z.ts.map (·.1)=B.L) (hog:o.gen<18446744073709551616) (hot:o.ticks<65536) (hm:Mem w (tdoF r x B d q p y z++tab5F)):
  Con Tryz.prog z_d7 #[.pointer (some ⟨p.pb,0,none⟩),.agg o.cells.toArray] w (tdoF r x B d q p y z) (tdoOut r x d q p n):=by
 have hml:=maxLen_eq
 obtain ⟨d0,ten,usr,rol,gen,which,own,spoil,text,ticks⟩:=o
 simp only at hog hot
 have g:=z_hc w (Un (tdoF r x B d q p y z))
 refine z_cx (cx:=z_dL w (Un (tdoF r x B d q p y z))) g z_jd [.c (.v (.pointer (some ⟨p.pb,0,none⟩))),.agg ([.v (.int .u8 (d0.toNat:Int)),.v (.string (mkS ten)),.v (.string (mkS usr)),.v (.string (mkS rol)),.v (.int .u64 (gen:Int)),.v (.int .u8 (which.toNat:Int)),.v (.bool own),.v (.bool spoil),.v (.string (mkS text)),.v (.int .u16 (ticks:Int))])] tab5F hm ?_
 refine z_ae g ?_
 refine z_ha (fun β w' hs=>hs.unsep 0 rfl) ?_
 obtain ⟨now2,hnow2⟩: ∃now2:Nat,p.now+ticks%200=now2:=⟨_,rfl⟩
 have hnw:=hI.now
 refine z_aM (ι:=Unit) g (fun _=>True) 1 (fun _=>[(0,.c (.v (.pointer (some ⟨p.pb,0,none⟩)))),(3,.c (.p 0 0))])
  (fun _=>[⟨0,z_ao,[.v (.int .u8 (d0.toNat:Int)),.v (.string (mkS ten)),.v (.string (mkS usr)),.v (.string (mkS rol)),.v (.int .u64 (gen:Int)),.v (.int .u8 (which.toNat:Int)),.v (.bool own),.v (.bool spoil),.v (.string (mkS text)),.v (.int .u16 (ticks:Int))]⟩]) (fun _=>[bkF p.pb z_am ({p with now:=now2}:PR).vs,sRow p.A p.l p.c,dkF d,rgF r,bxF r.bx B y,rdkF q,rrF x,rbxF x.bx B z]++tab5F) ?_ ?_
 rotate_left
 ·refine z_af g z_ht (by kernel_rfl) [⟨0,z_ao,[.v (.int .u8 (d0.toNat:Int)),.v (.string (mkS ten)),.v (.string (mkS usr)),.v (.string (mkS rol)),.v (.int .u64 (gen:Int)),.v (.int .u8 (which.toNat:Int)),.v (.bool own),.v (.bool spoil),.v (.string (mkS text)),.v (.int .u16 (ticks:Int))]⟩] [] (subPerm []) ?_
  refine ⟨by decide,?_⟩
  refine ⟨((ticks%200:Nat):Int),Int.ofNat_tmod _ _,?_⟩
  refine ⟨((ticks%200:Nat):Int),by rw [z_aD];omega,?_⟩
  refine ⟨_,fun β w' hs=>z_ai (hs.get 0 rfl) (o:=4) rfl,?_⟩
  refine ⟨subPerm [],?_⟩
  refine ⟨(now2:Int),by rw [z_aD];omega,?_⟩
  refine ⟨_,fun β w' hs=>hs.bkSet 0 (o:=4) (us:=[.int .u64 (now2:Int)]) rfl (by show 5<=5;decide) (z_a9 rfl),?_⟩
  refine ⟨subPerm [],?_⟩
  exact EntX.of () trivial (Ent.mk' ⟨rfl,rfl,trivial⟩ rfl (fun β w' hs=>hs))
 rintro ⟨⟩ -
 refine z_ae g ?_
 refine ⟨by decide,?_⟩
 obtain ⟨wi,hwi,hw12⟩: ∃wi:Nat,which.toNat%12=wi/\wi<12:=⟨_,rfl,Nat.mod_lt _ (by decide)⟩
 refine ⟨(wi:Int),by rw [<-hwi];exact Int.ofNat_tmod _ _,?_⟩
 refine ⟨(wi:Int),by rw [z_aD];omega,?_⟩
 refine z_id ?_
 refine z_ae g ?_
 refine ⟨by decide,?_⟩
 obtain ⟨m,hm2⟩: ∃m:Int,((d0.toNat%11:Nat):Int)=m:=⟨_,rfl⟩
 refine ⟨m,by rw [<-hm2];exact Int.ofNat_tmod _ _,?_⟩
 have hm0:0<=m:=by omega
 have hm11:m<11:=by omega
 clear hm2
 refine z_b3 ?_
 refine z_aM (ι:=Bool) g (fun i=>i=decide (3<=m/\m<=6)) 1 (fun i=>[(0,.c (.v (.pointer (some ⟨p.pb,0,none⟩)))),(3,.c (.p 0 0)),(5,.c (.v (.int .u64 (wi:Int)))),(38,.c (.v (.int .u8 m))),(39,.c (.v (.bool i)))])
  (fun _=>[⟨0,z_ao,[.v (.int .u8 (d0.toNat:Int)),.v (.string (mkS ten)),.v (.string (mkS usr)),.v (.string (mkS rol)),.v (.int .u64 (gen:Int)),.v (.int .u8 (which.toNat:Int)),.v (.bool own),.v (.bool spoil),.v (.string (mkS text)),.v (.int .u16 (ticks:Int))]⟩]) (fun _=>[bkF p.pb z_am ({p with now:=now2}:PR).vs,sRow p.A p.l p.c,dkF d,rgF r,bxF r.bx B y,rdkF q,rrF x,rbxF x.bx B z]++tab5F) ?_ ?_
 rotate_left
 ·refine BIf.dec (fun h3=>?_) (fun h3=>?_)
  ·have h30:m=3:=h3
   exact EntX.of (decide (m=3)) (by rw [decide_eq_true h30,decide_eq_true (by omega)]) (Ent.mk' ⟨rfl,rfl,rfl,rfl,rfl,trivial⟩ rfl (fun β w' hs=>hs))
  have h30: ¬m=3:=h3
  refine BIf.dec (fun h4=>?_) (fun h4=>?_)
  ·have h40:m=4:=h4
   exact EntX.of (decide (m=4)) (by rw [decide_eq_true h40,decide_eq_true (by omega)]) (Ent.mk' ⟨rfl,rfl,rfl,rfl,rfl,trivial⟩ rfl (fun β w' hs=>hs))
  have h40: ¬m=4:=h4
  refine BIf.dec (fun h5=>?_) (fun h5=>?_)
  ·have h50:m=5:=h5
   exact EntX.of (decide (m=5)) (by rw [decide_eq_true h50,decide_eq_true (by omega)]) (Ent.mk' ⟨rfl,rfl,rfl,rfl,rfl,trivial⟩ rfl (fun β w' hs=>hs))
  have h50: ¬m=5:=h5
  refine EntX.of (decide (m=6)) ?_ (Ent.mk' ⟨rfl,rfl,rfl,rfl,rfl,trivial⟩ rfl (fun β w' hs=>hs))
  by_cases h6:m=6
  ·rw [decide_eq_true h6,decide_eq_true (by omega)]
  ·rw [decide_eq_false h6,decide_eq_false (by omega)]
 intro i hi
 refine z_qp (b:=i) rfl (fun hb=>?_) (fun hb=>?_)
 ·refine z_ae g ?_
  refine z_ah (v:= .string (mkS (text.take 200))) (fun β w' hs=>by
   have h:=z_pO w' (mkS text) 200 (by decide)
   have e:(mkS text).data.toList=text:=by simp [mkS]
   rw [e] at h
   exact h) ?_
  refine z_mw (ι:=List UInt8) (fun s=>s.length<=300) 1 (fun s=>[(0,.c (.v (.pointer (some ⟨p.pb,0,none⟩)))),(6,.c (.v (.string (mkS s))))])
   (fun _=>[⟨0,z_ao,[.v (.int .u8 (d0.toNat:Int)),.v (.string (mkS ten)),.v (.string (mkS usr)),.v (.string (mkS rol)),.v (.int .u64 (gen:Int)),.v (.int .u8 (which.toNat:Int)),.v (.bool own),.v (.bool spoil),.v (.string (mkS text)),.v (.int .u16 (ticks:Int))]⟩]) (fun _=>[bkF p.pb z_am ({p with now:=now2}:PR).vs,sRow p.A p.l p.c,dkF d,rgF r,bxF r.bx B y,rdkF q,rrF x,rbxF x.bx B z]++tab5F) ?_ ?_
  rotate_left
  ·cases own with
   | false=>
    refine z_aQ g ?_
    exact EntX.of (text.take 200) (by rw [List.length_take];omega) (Ent.mk' ⟨rfl,rfl,trivial⟩ rfl (fun β w' hs=>hs))
   | true=>
    refine z_ae g ?_
    refine ⟨.slice p.A p.l.length p.c,fun β w' hs=>z_ai (hs.get 0 rfl) (o:=3) rfl,?_⟩
    refine z_qp (b:=decide ((0:Int)<(p.l.length:Int))) rfl (fun hpos=>?_) (fun hpos=>?_)
    rotate_left
    ·refine z_aQ g ?_
     exact EntX.of (text.take 200) (by rw [List.length_take];omega) (Ent.mk' ⟨rfl,rfl,trivial⟩ rfl (fun β w' hs=>hs))
    have hpos0:(0:Int)<(p.l.length:Int):=of_decide_eq_true hpos
    have hkl:which.toNat%p.l.length<p.l.length:=Nat.mod_lt _ (by omega)
    obtain ⟨s,hs1,hsm⟩:=at_lt hkl
    obtain ⟨hs0,hs3⟩:=hI.txt s hsm
    have hwh:=which.toNat_lt
    have hrow: ∀w',(prF p).p w'->Rd 1 p.A p.l.length (p.l.map strV) w':=fun w' h=>z_aj (h.1 (sRow p.A p.l p.c) (by simp))
    obtain ⟨ad,hA1,_⟩:=(hrow w (hm.fact (prF p) (by simp))).2 (by omega)
    refine z_ae g ?_
    refine z_af g z_g6 (by kernel_rfl) [⟨0,z_ao,[.v (.int .u8 (d0.toNat:Int)),.v (.string (mkS ten)),.v (.string (mkS usr)),.v (.string (mkS rol)),.v (.int .u64 (gen:Int)),.v (.int .u8 (which.toNat:Int)),.v (.bool true),.v (.bool spoil),.v (.string (mkS text)),.v (.int .u16 (ticks:Int))]⟩] [bkF p.pb z_am ({p with now:=now2}:PR).vs,sRow p.A p.l p.c] (subPerm [0,1]) ?_
    refine ⟨.slice p.A p.l.length p.c,fun β w' hs=>z_ai (hs.get 0 rfl) (o:=3) rfl,?_⟩
    refine ⟨(which.toNat:Int),by rw [wrap_i64 (by omega) (by omega)],?_⟩
    refine ⟨.slice p.A p.l.length p.c,fun β w' hs=>z_ai (hs.get 0 rfl) (o:=3) rfl,?_⟩
    refine ⟨by omega,((which.toNat%p.l.length:Nat):Int),Int.ofNat_tmod _ _,?_⟩
    refine ⟨ad,which.toNat%p.l.length,hA1,rfl,hkl,?_⟩
    refine ⟨strV s,fun β w' hs=>Rd.cell1 (by have h:=z_aj (hs.get 1 rfl);rw [hA1] at h;exact h) (by rw [List.getElem?_map,hs1];rfl),?_⟩
    refine z_ae g ?_
    cases spoil with
    | false=>
     refine z_aQ g ?_
     exact EntX.of s hs3 (Ent.mk' ⟨rfl,rfl,trivial⟩ rfl (fun β w' hs=>hs))
    | true=>
     refine z_qp (b:=true) rfl (fun _=>?_) (fun h=>by cases h)
     refine z_id (z_uP g 1 _ rfl rfl rfl ?_)
     intro bb cb hc1 hc2
     refine z_ae g ?_
     obtain ⟨i,hi⟩: ∃i,gen%s.length=i:=⟨_,rfl⟩
     have hiT:i<s.length:=hi▸Nat.mod_lt _ (by omega)
     refine ⟨(s.length:Int),by rw [z_aD];show (s.length:Int)%_=_;omega,?_⟩
     refine ⟨by omega,(i:Int),by rw [<-hi];exact Int.ofNat_tmod _ _,?_⟩
     refine ⟨(i:Int),wrap_i64 (by omega) (by omega),?_⟩
     refine ⟨_,i,rfl,rfl,hiT,byte s[i],fun β w hs=>Bs.cell (wr_rd (hs.get 0 rfl)) rfl hiT,?_⟩
     obtain ⟨u,hu⟩:=z_yG .xor (s[i].toNat:Int) 1
     refine ⟨_,hu,?_⟩
     refine ⟨_,i,rfl,rfl,hiT,?_⟩
     refine ⟨_,fun β w hs=>hs.wrSet (j:=0) rfl hiT u,?_⟩
     obtain ⟨T2,hT2,hl⟩: ∃T2,s.set i u=T2/\T2.length=s.length:=⟨_,rfl,List.length_set⟩
     have hT2':(mkS s).data.toList.set i u=T2:=hT2
     rw [hT2']
     refine z_aQ g ?_
     refine ⟨T2,fun β w hs=>by have h:Rd 1 (some ⟨bb,0,none⟩) T2.length (T2.map byte) w:=wr_rd (hs.get 0 rfl);rw [hl] at h;exact h,?_⟩
     exact EntX.of T2 (by rw [hl];exact hs3) (Ent.mk' ⟨rfl,rfl,trivial⟩ rfl (fun β w' hs=>(hs.perm [1,2,3,4,5,6,7,8,9,10,11,12,13])))
  intro s hs300
  obtain ⟨ot,hot⟩: ∃ot,openT r.ky d.gone B s now2=ot:=⟨_,rfl⟩
  have hgr:=z_vG (ky:=r.ky) (gone:=d.gone) (s:=s) (now:=now2) hI.ri.inv (by have:=hI.ri.len;omega) (fun e k hk=>by
   unfold Rg.ky at hk
   cases hk2:r.key e with
   | none=>rw [hk2] at hk;cases hk
   | some k2=>
    rw [hk2] at hk
    obtain rfl:=Option.some.inj hk
    exact hI.ri.p k2 (List.mem_of_find?_eq_some hk2))
  rw [hot] at hgr
  obtain ⟨ot,oe,B2⟩:=ot
  simp only at hgr
  refine z_aM (ι:=Lay) g (fun y2=>y2.ts.map (·.1)=B2.L) 2 (fun _=>[(0,.c (.v (.pointer (some ⟨p.pb,0,none⟩)))),(6,.c (.v (.string (mkS s)))),(8,.c (.p 1 0)),(9,.c (.v (.int .i64 oe)))])
   (fun _=>[⟨1,z_an,ot.cells.map SL.v⟩,⟨0,z_ao,[.v (.int .u8 (d0.toNat:Int)),.v (.string (mkS ten)),.v (.string (mkS usr)),.v (.string (mkS rol)),.v (.int .u64 (gen:Int)),.v (.int .u8 (which.toNat:Int)),.v (.bool own),.v (.bool spoil),.v (.string (mkS text)),.v (.int .u16 (ticks:Int))]⟩]) (fun y2=>[bkF p.pb z_am ({p with now:=now2}:PR).vs,sRow p.A p.l p.c,dkF d,rgF r,bxF r.bx B2 y2,rdkF q,rrF x,rbxF x.bx B z]++tab5F) ?_ ?_
  rotate_left
  ·refine z_af g z_he (by kernel_rfl) [⟨0,z_ao,[.v (.int .u8 (d0.toNat:Int)),.v (.string (mkS ten)),.v (.string (mkS usr)),.v (.string (mkS rol)),.v (.int .u64 (gen:Int)),.v (.int .u8 (which.toNat:Int)),.v (.bool own),.v (.bool spoil),.v (.string (mkS text)),.v (.int .u16 (ticks:Int))]⟩] [bkF p.pb z_am ({p with now:=now2}:PR).vs] (subPerm [0]) ?_
   refine ⟨ptrD p.db,fun β w' hs=>z_ai (hs.get 0 rfl) (o:=0) rfl,?_⟩
   refine ⟨.int .u64 (now2:Int),fun β w' hs=>z_ai (hs.get 0 rfl) (o:=4) rfl,?_⟩
   refine ⟨?_,?_⟩
   ·refine z_aa [2,3,4] (R:=opnOut r d (ot,oe,B2)) (fun β w' hs=>by
     have h:=z_mk w' d r B y s now2 (by omega) hI.drb hI.ri.p hy hI.ri.inv (by have:=hI.ri.len;omega) (fun k v=>hI.kn.goneI k v) (hs.mem.take (js:=[2,3,4,8,9,11,12]) rfl)
     rw [hot,<-hI.pd] at h
     exact h) ?_ ⟨rfl,rfl,rfl,trivial⟩
    rintro v Fs ⟨y2,hy2,rfl,rfl⟩
    refine ⟨subPerm [3],?_⟩
    refine ⟨Sub.of (List.sublist_cons_self _ _) (List.Sublist.cons _ (List.Sublist.cons _ (List.Sublist.cons _ (List.Sublist.cons_cons _ (List.nil_sublist _))))),?_⟩
    refine ⟨Sub.of (List.sublist_cons_self _ _) (List.Sublist.cons _ (List.Sublist.cons _ (List.Sublist.cons _ (List.Sublist.cons_cons _ (List.nil_sublist _))))),?_⟩
    exact EntX.of y2 hy2 (Ent.mk' ⟨rfl,rfl,rfl,rfl,trivial⟩ rfl (fun β w' hs=>hs.perm [3,4,0,1,2,5,6,7,8,9,10,11,12]))
   ·refine ⟨Sub.of (List.sublist_cons_self _ _) (List.Sublist.cons_cons _ (List.nil_sublist _)),?_⟩
    refine z_aa [2,3,4] (R:=opnOut r d (ot,oe,B2)) (fun β w' hs=>by
     have h:=z_mk w' d r B y s now2 (by omega) hI.drb hI.ri.p hy hI.ri.inv (by have:=hI.ri.len;omega) (fun k v=>hI.kn.goneI k v) (hs.mem.take (js:=[2,3,4,8,9,11,12]) rfl)
     rw [hot,<-hI.pd] at h
     exact h) ?_ ⟨rfl,rfl,rfl,trivial⟩
    rintro v Fs ⟨y2,hy2,rfl,rfl⟩
    refine ⟨Sub.of (List.sublist_cons_self _ _) (List.Sublist.cons _ (List.Sublist.cons _ (List.Sublist.cons _ (List.Sublist.cons_cons _ (List.nil_sublist _))))),?_⟩
    refine ⟨Sub.of (List.sublist_cons_self _ _) (List.Sublist.cons _ (List.Sublist.cons _ (List.Sublist.cons _ (List.Sublist.cons_cons _ (List.nil_sublist _))))),?_⟩
    exact EntX.of y2 hy2 (Ent.mk' ⟨rfl,rfl,rfl,rfl,trivial⟩ rfl (fun β w' hs=>hs.perm [3,4,0,1,2,5,6,7,8,9,10,11,12]))
  intro y2 hy2
  have hgo: ∀i:Nat,d.gone (i:Int)=decide (i∈rvS q.L):=fun i=>by
   unfold Dk.gone
   rw [hI.kn.gone i]
   by_cases h:i∈rvS q.L
   ·rw [if_pos h,decide_eq_true h];rfl
   ·rw [if_neg h,decide_eq_false h];rfl
  refine z_aM (ι:=Lay) g (fun z2=>z2.ts.map (·.1)=B2.L) 3 (fun _=>[(0,.c (.v (.pointer (some ⟨p.pb,0,none⟩)))),(8,.c (.p 1 0)),(9,.c (.v (.int .i64 oe))),(10,.c (.p 2 0)),(11,.c (.v (.int .i64 oe)))])
   (fun _=>[⟨2,z_ad,ot.cells.map SL.v⟩,⟨1,z_an,ot.cells.map SL.v⟩]) (fun z2=>[bkF p.pb z_am ({p with now:=now2}:PR).vs,sRow p.A p.l p.c,dkF d,rgF r,bxF r.bx B2 y2,rdkF q,rrF x,rbxF x.bx B2 z2]++tab5F) ?_ ?_
  rotate_left
  ·refine z_af g z_g5 (by kernel_rfl) [⟨1,z_an,ot.cells.map SL.v⟩,⟨0,z_ao,[.v (.int .u8 (d0.toNat:Int)),.v (.string (mkS ten)),.v (.string (mkS usr)),.v (.string (mkS rol)),.v (.int .u64 (gen:Int)),.v (.int .u8 (which.toNat:Int)),.v (.bool own),.v (.bool spoil),.v (.string (mkS text)),.v (.int .u16 (ticks:Int))]⟩] [bkF p.pb z_am ({p with now:=now2}:PR).vs] (subPerm [0]) ?_
   refine ⟨.pointer (some ⟨p.qb,0,none⟩),fun β w' hs=>z_ai (hs.get 0 rfl) (o:=2) rfl,?_⟩
   refine ⟨.int .u64 (now2:Int),fun β w' hs=>z_ai (hs.get 0 rfl) (o:=4) rfl,?_⟩
   refine ⟨?_,?_⟩
   ·refine z_aa [5,7,6] (R:=fun v Fs=> ∃z',z'.ts.map (·.1)=B2.L/\v= .tuple #[ot.v,.int .i64 oe]/\Fs=[rdkF q,rbxF x.bx B2 z',rrF x]) (fun β w' hs=>by
     have h:=z_rv w' q x B z s now2 r.ky d.gone hI.qrb (fun e=>hI.ri.rky e) hgo hI.kn.ri (by have:=hI.kn.ln;have:=hI.ser;have:=hI.sn;omega) (by omega) hI.ri.esl hI.ri.ma hz hI.ri.inv (by have:=hI.ri.len;omega) (hs.mem.take (js:=[5,7,6,10]) rfl)
     rw [hot,<-hI.pq] at h
     exact h) ?_ ⟨rfl,rfl,rfl,trivial⟩
    rintro v Fs ⟨z2,hz2,rfl,rfl⟩
    refine ⟨subPerm [3],?_⟩
    refine ⟨Sub.of (List.sublist_cons_self _ _) (List.Sublist.cons _ (List.Sublist.cons _ (List.Sublist.cons _ (List.Sublist.cons_cons _ (List.nil_sublist _))))),?_⟩
    refine ⟨Sub.of (List.sublist_cons_self _ _) (List.Sublist.cons _ (List.Sublist.cons _ (List.Sublist.cons _ (List.Sublist.cons_cons _ (List.nil_sublist _))))),?_⟩
    exact EntX.of z2 hz2 (Ent.mk' ⟨rfl,rfl,rfl,rfl,rfl,trivial⟩ rfl (fun β w' hs=>(hs.keepB (List.Sublist.cons_cons _ (List.Sublist.cons_cons _ (List.nil_sublist _)))).perm [3,4,5,6,7,0,2,1,8,9,10,11,12]))
   ·refine ⟨Sub.of (List.sublist_cons_self _ _) (List.Sublist.cons_cons _ (List.nil_sublist _)),?_⟩
    refine z_aa [5,7,6] (R:=fun v Fs=> ∃z',z'.ts.map (·.1)=B2.L/\v= .tuple #[ot.v,.int .i64 oe]/\Fs=[rdkF q,rbxF x.bx B2 z',rrF x]) (fun β w' hs=>by
     have h:=z_rv w' q x B z s now2 r.ky d.gone hI.qrb (fun e=>hI.ri.rky e) hgo hI.kn.ri (by have:=hI.kn.ln;have:=hI.ser;have:=hI.sn;omega) (by omega) hI.ri.esl hI.ri.ma hz hI.ri.inv (by have:=hI.ri.len;omega) (hs.mem.take (js:=[5,7,6,10]) rfl)
     rw [hot,<-hI.pq] at h
     exact h) ?_ ⟨rfl,rfl,rfl,trivial⟩
    rintro v Fs ⟨z2,hz2,rfl,rfl⟩
    refine ⟨Sub.of (List.sublist_cons_self _ _) (List.Sublist.cons _ (List.Sublist.cons _ (List.Sublist.cons _ (List.Sublist.cons_cons _ (List.nil_sublist _))))),?_⟩
    refine ⟨Sub.of (List.sublist_cons_self _ _) (List.Sublist.cons _ (List.Sublist.cons _ (List.Sublist.cons _ (List.Sublist.cons_cons _ (List.nil_sublist _))))),?_⟩
    exact EntX.of z2 hz2 (Ent.mk' ⟨rfl,rfl,rfl,rfl,rfl,trivial⟩ rfl (fun β w' hs=>(hs.keepB (List.Sublist.cons_cons _ (List.Sublist.cons_cons _ (List.nil_sublist _)))).perm [3,4,5,6,7,0,2,1,8,9,10,11,12]))
  intro z2 hz2
  refine z_ae g ?_
  refine ⟨true,fun β w'=>z_sY z_xP ot (.tmp 116) (.tmp 117) w',?_⟩
  refine z_aQ g ?_
  exact fun β w' hs=>((hs.keepB (List.nil_sublist _)).sep [0,1] rfl ⟨rfl,rfl,trivial⟩).fin [0,1,2,3,4,5,6] ⟨r,x,B2,d,q,{p with now:=now2},y2,z2,by show Value.bool (decide (oe=oe))=_;rw [decide_eq_true rfl],rfl,rfl,rfl,rfl,rfl,rfl,rfl,hy2,hz2,hI.next (by omega) hgr.1 hgr.2.1 hgr.2.2 (by omega),rfl⟩ rfl rfl rfl ⟨rfl,rfl,rfl,rfl,rfl,rfl,rfl,trivial⟩
 ·refine z_aQ g ?_
  have hLl:q.L.length<=1000:=by have:=hI.kn.ln;have:=hI.ser;have:=hI.sn;omega
  have hnx: ∀B',Pre B B'->BInv B'->B'.L.length<=B.L.length+1->DoI r x B' d q {p with now:=now2} (n+1):=fun B' h1 h2 h3=>hI.next (by omega) h1 h2 h3 (by omega)
  have hn0:=hnx B (Pre.refl _) hI.ri.inv (Nat.le_succ _)
  have hrl:=hI.ri.len
  refine BIf.dec (fun h7=>?_) (fun h7=>?_)
  ·refine z_af g z_hf (by kernel_rfl) [⟨0,z_ao,[.v (.int .u8 (d0.toNat:Int)),.v (.string (mkS ten)),.v (.string (mkS usr)),.v (.string (mkS rol)),.v (.int .u64 (gen:Int)),.v (.int .u8 (which.toNat:Int)),.v (.bool own),.v (.bool spoil),.v (.string (mkS text)),.v (.int .u16 (ticks:Int))]⟩] [bkF p.pb z_am ({p with now:=now2}:PR).vs] (subPerm [0]) ?_
   refine ⟨ptrD p.db,fun β w' hs=>z_ai (hs.get 0 rfl) (o:=0) rfl,?_⟩
   refine ⟨.pointer (some ⟨p.qb,0,none⟩),fun β w' hs=>z_ai (hs.get 0 rfl) (o:=2) rfl,?_⟩
   obtain ⟨rv,hrv⟩: ∃rv,revD d (wi:Int)=rv:=⟨_,rfl⟩
   obtain ⟨e1,d1⟩:=rv
   refine z_aa [2] (R:=fun v Fs=>v= .int .i64 e1/\Fs=[dkF d1]) (fun β w' hs=>by
    have h:=z_pD w' d wi (fun v=>hI.kn.goneI _ v) (hs.mem.take (js:=[2]) rfl)
    rw [hrv,<-hI.pd] at h
    exact h) ?_
   rintro v Fs ⟨rfl,rfl⟩
   refine ⟨subPerm [1],?_⟩
   refine z_aa [5] (fun β w' hs=>by
    rw [hI.pq]
    exact z_sy w' q wi hLl (hs.mem.take (js:=[5]) rfl)) ?_
   rintro v Fs (⟨hno,rfl,rfl⟩ | ⟨X,k,Y,hqL,hks,⟨hkr,rfl,rfl⟩ | ⟨hkr,rfl,A2,c2,rfl⟩⟩)
   ·rw [z_zG hI.kn hno] at hrv
    injection hrv with q1 q2
    subst q1 q2
    refine ⟨subPerm [2],?_⟩
    exact fun β w' hs=>((hs.keepB (List.nil_sublist _)).sep [2,3] rfl ⟨rfl,rfl,trivial⟩).fin [0,2,3,4,1,5,6] ⟨r,x,B,d,q,{p with now:=now2},y,z,rfl,rfl,rfl,rfl,rfl,rfl,rfl,rfl,hy,hz,hn0,rfl⟩ rfl rfl rfl ⟨rfl,rfl,rfl,rfl,rfl,rfl,rfl,trivial⟩
   ·have hkn:=hI.kn
    rw [hqL] at hkn
    rw [<-hks,z_wv hkn hkr] at hrv
    injection hrv with q1 q2
    subst q1 q2
    refine ⟨subPerm [2],?_⟩
    exact fun β w' hs=>((hs.keepB (List.nil_sublist _)).sep [2,3] rfl ⟨rfl,rfl,trivial⟩).fin [0,2,3,4,1,5,6] ⟨r,x,B,d,q,{p with now:=now2},y,z,rfl,rfl,rfl,rfl,rfl,rfl,rfl,rfl,hy,hz,hn0,rfl⟩ rfl rfl rfl ⟨rfl,rfl,rfl,rfl,rfl,rfl,rfl,trivial⟩
   ·have hkn:=hI.kn
    rw [hqL] at hkn
    rw [<-hks,z_ym hkn hkr] at hrv
    injection hrv with q1 q2
    subst q1 q2
    refine ⟨subPerm [2],?_⟩
    exact fun β w' hs=>((hs.keepB (List.nil_sublist _)).sep [2,3] rfl ⟨rfl,rfl,trivial⟩).fin [0,2,3,4,1,5,6] ⟨r,x,B,{d with rv:=iput d.rv (k.s:Int) (.bool true)},{q with A:=A2,c:=c2,L:=X++⟨k.s,k.til,true⟩::Y},{p with now:=now2},y,z,rfl,rfl,rfl,rfl,rfl,rfl,rfl,rfl,hy,hz,hn0.setK (t:=d.to) (hkn.revoke hkr),rfl⟩ rfl rfl rfl ⟨rfl,rfl,rfl,rfl,rfl,rfl,rfl,trivial⟩
  refine BIf.dec (fun h8=>?_) (fun h8=>?_)
  ·refine z_af g z_g9 (by kernel_rfl) [⟨0,z_ao,[.v (.int .u8 (d0.toNat:Int)),.v (.string (mkS ten)),.v (.string (mkS usr)),.v (.string (mkS rol)),.v (.int .u64 (gen:Int)),.v (.int .u8 (which.toNat:Int)),.v (.bool own),.v (.bool spoil),.v (.string (mkS text)),.v (.int .u16 (ticks:Int))]⟩] [bkF p.pb z_am ({p with now:=now2}:PR).vs] (subPerm [0]) ?_
   refine ⟨ptrD p.db,fun β w' hs=>z_ai (hs.get 0 rfl) (o:=0) rfl,?_⟩
   refine ⟨.int .u64 (now2:Int),fun β w' hs=>z_ai (hs.get 0 rfl) (o:=4) rfl,?_⟩
   refine ⟨.pointer (some ⟨p.qb,0,none⟩),fun β w' hs=>z_ai (hs.get 0 rfl) (o:=2) rfl,?_⟩
   refine ⟨.int .u64 (now2:Int),fun β w' hs=>z_ai (hs.get 0 rfl) (o:=4) rfl,?_⟩
   refine z_aa [2] (fun β w' hs=>by
    show Con _ _ #[.pointer (some ⟨p.db,0,none⟩),_] _ _ _
    rw [hI.pd]
    exact z_yd w' d q.L now2 hI.kn (by have:=hI.ser;have:=hI.sn;omega) (hs.mem.take (js:=[2]) rfl)) ?_
   rintro v Fs ⟨t1,r1,rfl,hk1,rfl⟩
   refine ⟨subPerm [1],?_⟩
   refine z_aa [5] (fun β w' hs=>by
    rw [hI.pq]
    exact z_ub w' q now2 hLl (hs.mem.take (js:=[5]) rfl)) ?_
   rintro v Fs ⟨rfl,A2,c2,rfl⟩
   refine ⟨subPerm [2],?_⟩
   exact fun β w' hs=>((hs.keepB (List.nil_sublist _)).sep [2,3] rfl ⟨rfl,rfl,trivial⟩).fin [0,2,3,4,1,5,6] ⟨r,x,B,{d with «to» :=t1,rv:=r1},{q with A:=A2,c:=c2,L:=swpL q.L now2},{p with now:=now2},y,z,by show Value.bool (decide _)=_;rw [decide_eq_true rfl],rfl,rfl,rfl,rfl,rfl,rfl,rfl,hy,hz,hn0.setK hk1,rfl⟩ rfl rfl rfl ⟨rfl,rfl,rfl,rfl,rfl,rfl,rfl,trivial⟩
  refine BIf.dec (fun h9=>?_) (fun h9=>?_)
  ·refine ⟨ptrR p.rp,fun β w' hs=>z_ai (hs.get 0 rfl) (o:=1) rfl,?_⟩
   refine z_aa [3,4] (fun β w' hs=>by
    have h:=z_tx w' r B y hI.ri.ok hy hI.ri.inv (by omega) (hs.mem.take (js:=[3,4,8,9]) rfl)
    rw [<-hI.pr] at h
    exact h) ?_
   rintro v Fs ⟨A2,c2,y1,rfl,hy1,rfl⟩
   refine ⟨.pointer (some ⟨p.qb,0,none⟩),fun β w' hs=>z_ai (hs.get 2 rfl) (o:=2) rfl,?_⟩
   refine ⟨ptrR q.rb,fun β w' hs=>by rw [hI.pq];exact z_ai (z_hx (hs.get 5 rfl)) (o:=0) rfl,?_⟩
   refine z_aa [7,6] (R:=rotOut x B) (fun β w' hs=>by
    have h:=z_xu w' x B z (by have:=hI.ri.ep;have:=hI.ri.epn;omega) hI.ri.esl hI.ri.ma hz hI.ri.inv (by omega) (hs.mem.take (js:=[7,6,10]) rfl)
    rw [<-hI.qrb] at h
    exact h) ?_
   rintro v Fs ⟨x1,z1,rfl,u1,u2,u3,u4,u5,u6,u7,hz1,rfl⟩
   rw [hI.ri.ep] at hz1 ⊢
   rw [hI.ri.m] at hz1 ⊢
   have hrot:=hI.ri.rot (by omega) A2 c2 u3 u4 u5 u6 u7
   refine fun β w' hs=>((hs.keepB (List.nil_sublist _)).sep [4,5] rfl ⟨rfl,rfl,trivial⟩).fin [0,5,3,4,6,2,1] ⟨(r.more A2 c2 (macB B r.master (keyT (r.epoch+1)).data.toList).1).cut,x1,_,d,q,{p with now:=now2},y1,z1,by show Value.bool (decide _)=_;rw [decide_eq_true rfl],cut_b _,z_sR _,u1,u2,rfl,rfl,rfl,hy1,hz1,hn0.ring hrot (by rw [z_od];show 1<=r.epoch+1;omega) (cut_b _) u1,?_⟩ rfl rfl rfl ⟨rfl,rfl,rfl,rfl,rfl,rfl,rfl,trivial⟩
   unfold tdoF
   rw [z_sR,u2]
   rfl
  refine BIf.dec (fun h10=>?_) (fun h10=>?_)
  ·refine z_af g z_hg (by kernel_rfl) [⟨0,z_ao,[.v (.int .u8 (d0.toNat:Int)),.v (.string (mkS ten)),.v (.string (mkS usr)),.v (.string (mkS rol)),.v (.int .u64 (gen:Int)),.v (.int .u8 (which.toNat:Int)),.v (.bool own),.v (.bool spoil),.v (.string (mkS text)),.v (.int .u16 (ticks:Int))]⟩] [bkF p.pb z_am ({p with now:=now2}:PR).vs,rdkF q] (subPerm [0,5]) ?_
   refine ⟨ptrR p.rp,fun β w' hs=>z_ai (hs.get 0 rfl) (o:=1) rfl,?_⟩
   refine ⟨.pointer (some ⟨p.qb,0,none⟩),fun β w' hs=>z_ai (hs.get 0 rfl) (o:=2) rfl,?_⟩
   refine ⟨ptrR q.rb,fun β w' hs=>by rw [hI.pq];exact z_ai (z_hx (hs.get 1 rfl)) (o:=0) rfl,?_⟩
   have hky:=hI.ri.rky (wi:Int)
   refine z_aa [3] (R:=retOut r (wi:Int)) (fun β w' hs=>by
    have h:=z_xe w' r (wi:Int) hI.ri.p (hs.mem.take (js:=[3]) rfl)
    rw [<-hI.pr] at h
    exact h) ?_
   unfold retOut
   cases hk:r.key (wi:Int) with
   | none=>
    rw [hk] at hky
    have hno:(wi:Int)∉x.es:=hky
    rintro v Fs ⟨rfl,rfl⟩
    refine ⟨subPerm [1,5],?_⟩
    refine z_aa [6] (fun β w' hs=>by
     have h:=z_wW w' x (wi:Int) hI.ri.esl hno (hs.mem.take (js:=[6]) rfl)
     rw [<-hI.qrb] at h
     exact h) ?_
    rintro v Fs ⟨rfl,rfl⟩
    refine ⟨subPerm [2,6],?_⟩
    exact fun β w' hs=>((hs.keepB (List.nil_sublist _)).sep [2,3] rfl ⟨rfl,rfl,trivial⟩).fin [0,3,2,4,5,1,6] ⟨r,x,B,d,q,{p with now:=now2},y,z,rfl,rfl,rfl,rfl,rfl,rfl,rfl,rfl,hy,hz,hn0,rfl⟩ rfl rfl rfl ⟨rfl,rfl,rfl,rfl,rfl,rfl,rfl,trivial⟩
   | some k=>
    rw [hk] at hky
    have hin:(wi:Int)∈x.es:=hky.1
    rintro v Fs ⟨rfl,rfl⟩
    refine ⟨subPerm [1,5],?_⟩
    refine z_aa [6] (fun β w' hs=>by
     have h:=z_uW w' x (wi:Int) hI.ri.esl hin (hs.mem.take (js:=[6]) rfl)
     rw [<-hI.qrb] at h
     exact h) ?_
    rintro v Fs ⟨x1,rfl,u1,u2,u3,u4,u5,u6,u7,rfl⟩
    have u1:x1.b=x.b:=u1.trans hI.qrb
    refine ⟨subPerm [2,6],?_⟩
    refine fun β w' hs=>((hs.keepB (List.nil_sublist _)).sep [2,3] rfl ⟨rfl,rfl,trivial⟩).fin [0,3,2,4,5,1,6] ⟨r.drop (wi:Int),x1,B,d,q,{p with now:=now2},y,z,rfl,rfl,rfl,u1,u2,rfl,rfl,rfl,hy,hz,hn0.ring ((hI.ri.ret (wi:Int) u3 u4 u5 u6 u7).grow (by omega) (Pre.refl _) hI.ri.inv (by omega) (Nat.le_succ _)) hI.ep1 rfl u1,?_⟩ rfl rfl rfl ⟨rfl,rfl,rfl,rfl,rfl,rfl,rfl,trivial⟩
    unfold tdoF
    rw [u2]
    rfl
  refine z_ae g ?_
  refine z_aa [] (fun β w' hs=>z_wA w' ⟨0,0,0,0,0,ten,usr,rol⟩) ?_
  rintro v Fs ⟨rfl,rfl⟩
  obtain ⟨tx,tt,e,B2,d2,q2,hP,hD,htx,hqb,hdb,hnext⟩:=z_vd (ten.take 40) (usr.take 40) (rol.take 40) gen hI (by omega) (show now2<=p.now+199 by omega)
  refine z_aM (ι:=Lay) g (fun y2=>y2.ts.map (·.1)=B2.L) 3 (fun _=>[(0,.c (.v (.pointer (some ⟨p.pb,0,none⟩)))),(3,.c (.p 0 0)),(14,.c (.p 1 0)),(15,.c (.v (.string (mkS tx)))),(16,.c (.p 2 0)),(17,.c (.v (.int .i64 e)))])
   (fun _=>[⟨2,z_an,tt.cells.map SL.v⟩,⟨1,z_aF,[.v (.string (mkS (ten.take 40))),.v (.string (mkS (usr.take 40))),.v (.string (mkS (rol.take 40)))]⟩,⟨0,z_ao,[.v (.int .u8 (d0.toNat:Int)),.v (.string (mkS ten)),.v (.string (mkS usr)),.v (.string (mkS rol)),.v (.int .u64 (gen:Int)),.v (.int .u8 (which.toNat:Int)),.v (.bool own),.v (.bool spoil),.v (.string (mkS text)),.v (.int .u16 (ticks:Int))]⟩]) (fun y2=>[bkF p.pb z_am ({p with now:=now2}:PR).vs,sRow p.A p.l p.c,dkF d2,rgF r,bxF r.bx B2 y2,rdkF q,rrF x,rbxF x.bx B z]++tab5F) ?_ ?_
  rotate_left
  ·refine z_af g z_hh (by kernel_rfl) [⟨1,z_aF,[.v (.string (mkS (ten.take 40))),.v (.string (mkS (usr.take 40))),.v (.string (mkS (rol.take 40)))]⟩,⟨0,z_ao,[.v (.int .u8 (d0.toNat:Int)),.v (.string (mkS ten)),.v (.string (mkS usr)),.v (.string (mkS rol)),.v (.int .u64 (gen:Int)),.v (.int .u8 (which.toNat:Int)),.v (.bool own),.v (.bool spoil),.v (.string (mkS text)),.v (.int .u16 (ticks:Int))]⟩] [bkF p.pb z_am ({p with now:=now2}:PR).vs] (subPerm [0]) ?_
   refine ⟨ptrD p.db,fun β w' hs=>z_ai (hs.get 0 rfl) (o:=0) rfl,?_⟩
   refine ⟨.int .u64 (now2:Int),fun β w' hs=>z_ai (hs.get 0 rfl) (o:=4) rfl,?_⟩
   refine ⟨?_,?_⟩
   ·refine z_aa [2,3,4] (R:=fun v Fs=> ∃y2,y2.ts.map (·.1)=B2.L/\v= .tuple #[.string (mkS tx),tt.v,.int .i64 e]/\Fs=[dkF d2,rgF r,bxF r.bx B2 y2]) (fun β w' hs=>by
     rw [hI.pd]
     exact (z_qt w' d r B y (ten.take 40) (usr.take 40) (rol.take 40) gen now2 (by rw [List.length_take];omega) (by rw [List.length_take];omega) (by rw [List.length_take];omega) hog (by omega) hI.drb (by have:=hI.ser;have:=hI.sn;omega) (by have:=hI.ri.epn;omega) hI.ri.p hy hI.ri.inv (by omega) (hs.mem.take (js:=[2,3,4,8,9,12]) rfl)).mono hP) ?_ ⟨rfl,rfl,rfl,trivial⟩
    rintro v Fs ⟨y2,hy2,rfl,rfl⟩
    refine ⟨subPerm [3],?_⟩
    refine ⟨Sub.of (List.sublist_cons_self _ _) (List.Sublist.cons _ (List.Sublist.cons _ (List.Sublist.cons _ (List.Sublist.cons_cons _ (List.nil_sublist _))))),?_⟩
    refine ⟨Sub.of (List.sublist_cons_self _ _) (List.Sublist.cons _ (List.Sublist.cons _ (List.Sublist.cons _ (List.Sublist.cons_cons _ (List.nil_sublist _))))),?_⟩
    exact EntX.of y2 hy2 (Ent.mk' ⟨rfl,rfl,rfl,rfl,rfl,rfl,trivial⟩ rfl (fun β w' hs=>hs.perm [3,4,0,1,2,5,6,7,8,9,10,11,12]))
   ·refine ⟨Sub.of (List.sublist_cons_self _ _) (List.Sublist.cons_cons _ (List.nil_sublist _)),?_⟩
    refine z_aa [2,3,4] (R:=fun v Fs=> ∃y2,y2.ts.map (·.1)=B2.L/\v= .tuple #[.string (mkS tx),tt.v,.int .i64 e]/\Fs=[dkF d2,rgF r,bxF r.bx B2 y2]) (fun β w' hs=>by
     rw [hI.pd]
     exact (z_qt w' d r B y (ten.take 40) (usr.take 40) (rol.take 40) gen now2 (by rw [List.length_take];omega) (by rw [List.length_take];omega) (by rw [List.length_take];omega) hog (by omega) hI.drb (by have:=hI.ser;have:=hI.sn;omega) (by have:=hI.ri.epn;omega) hI.ri.p hy hI.ri.inv (by omega) (hs.mem.take (js:=[2,3,4,8,9,12]) rfl)).mono hP) ?_ ⟨rfl,rfl,rfl,trivial⟩
    rintro v Fs ⟨y2,hy2,rfl,rfl⟩
    refine ⟨Sub.of (List.sublist_cons_self _ _) (List.Sublist.cons _ (List.Sublist.cons _ (List.Sublist.cons _ (List.Sublist.cons_cons _ (List.nil_sublist _))))),?_⟩
    refine ⟨Sub.of (List.sublist_cons_self _ _) (List.Sublist.cons _ (List.Sublist.cons _ (List.Sublist.cons _ (List.Sublist.cons_cons _ (List.nil_sublist _))))),?_⟩
    exact EntX.of y2 hy2 (Ent.mk' ⟨rfl,rfl,rfl,rfl,rfl,rfl,trivial⟩ rfl (fun β w' hs=>hs.perm [3,4,0,1,2,5,6,7,8,9,10,11,12]))
  intro y2 hy2
  refine z_aM (ι:=Option Addr×Nat×Lay) g (fun i=>i.2.2.ts.map (·.1)=B2.L) 4 (fun _=>[(0,.c (.v (.pointer (some ⟨p.pb,0,none⟩)))),(15,.c (.v (.string (mkS tx)))),(16,.c (.p 2 0)),(17,.c (.v (.int .i64 e))),(18,.c (.v (.string (mkS tx)))),(19,.c (.p 3 0)),(20,.c (.v (.int .i64 e)))])
   (fun _=>[⟨3,z_ad,tt.cells.map SL.v⟩,⟨2,z_an,tt.cells.map SL.v⟩]) (fun i=>[bkF p.pb z_am ({p with now:=now2}:PR).vs,sRow p.A p.l p.c,dkF d2,rgF r,bxF r.bx B2 y2,rdkF (q2 i.1 i.2.1),rrF x,rbxF x.bx B2 i.2.2]++tab5F) ?_ ?_
  rotate_left
  ·refine z_af g z_g2 (by kernel_rfl) [⟨2,z_an,tt.cells.map SL.v⟩,⟨1,z_aF,[.v (.string (mkS (ten.take 40))),.v (.string (mkS (usr.take 40))),.v (.string (mkS (rol.take 40)))]⟩,⟨0,z_ao,[.v (.int .u8 (d0.toNat:Int)),.v (.string (mkS ten)),.v (.string (mkS usr)),.v (.string (mkS rol)),.v (.int .u64 (gen:Int)),.v (.int .u8 (which.toNat:Int)),.v (.bool own),.v (.bool spoil),.v (.string (mkS text)),.v (.int .u16 (ticks:Int))]⟩] [bkF p.pb z_am ({p with now:=now2}:PR).vs] (subPerm [0]) ?_
   refine ⟨.pointer (some ⟨p.qb,0,none⟩),fun β w' hs=>z_ai (hs.get 0 rfl) (o:=2) rfl,?_⟩
   refine ⟨.int .u64 (now2:Int),fun β w' hs=>z_ai (hs.get 0 rfl) (o:=4) rfl,?_⟩
   refine ⟨?_,?_⟩
   ·refine z_aa [5,7,6] (R:=fun v Fs=> ∃A c z2,z2.ts.map (·.1)=B2.L/\v= .tuple #[.string (mkS tx),tt.v,.int .i64 e]/\Fs=[rdkF (q2 A c),rbxF x.bx B2 z2,rrF x]) (fun β w' hs=>by
     rw [hI.pq]
     exact (z_qZ w' q x B z (ten.take 40) (usr.take 40) (rol.take 40) gen now2 (r.ky (x.epoch:Int)) (hI.ri.rky _) hI.qrb (by rw [List.length_take];omega) (by rw [List.length_take];omega) (by rw [List.length_take];omega) hog (by omega) (by have:=hI.sn;omega) (by have:=hI.ri.epn;have:=hI.ri.ep;omega) hLl hI.ri.esl hI.ri.ma hz hI.ri.inv (by omega) (hs.mem.take (js:=[5,7,6,10]) rfl)).mono hD) ?_ ⟨rfl,rfl,rfl,trivial⟩
    rintro v Fs ⟨A3,c3,z2,hz2,rfl,rfl⟩
    refine ⟨subPerm [3],?_⟩
    refine ⟨Sub.of (List.sublist_cons_self _ _) (List.Sublist.cons _ (List.Sublist.cons _ (List.Sublist.cons _ (List.Sublist.cons_cons _ (List.nil_sublist _))))),?_⟩
    refine ⟨Sub.of (List.sublist_cons_self _ _) (List.Sublist.cons _ (List.Sublist.cons _ (List.Sublist.cons _ (List.Sublist.cons_cons _ (List.nil_sublist _))))),?_⟩
    exact EntX.of (A3,c3,z2) hz2 (Ent.mk' ⟨rfl,rfl,rfl,rfl,rfl,rfl,rfl,trivial⟩ rfl (fun β w' hs=>(hs.keepB (List.Sublist.cons_cons _ (List.Sublist.cons_cons _ (List.nil_sublist _)))).perm [3,4,5,6,7,0,2,1,8,9,10,11,12]))
   ·refine ⟨Sub.of (List.sublist_cons_self _ _) (List.Sublist.cons_cons _ (List.nil_sublist _)),?_⟩
    refine z_aa [5,7,6] (R:=fun v Fs=> ∃A c z2,z2.ts.map (·.1)=B2.L/\v= .tuple #[.string (mkS tx),tt.v,.int .i64 e]/\Fs=[rdkF (q2 A c),rbxF x.bx B2 z2,rrF x]) (fun β w' hs=>by
     rw [hI.pq]
     exact (z_qZ w' q x B z (ten.take 40) (usr.take 40) (rol.take 40) gen now2 (r.ky (x.epoch:Int)) (hI.ri.rky _) hI.qrb (by rw [List.length_take];omega) (by rw [List.length_take];omega) (by rw [List.length_take];omega) hog (by omega) (by have:=hI.sn;omega) (by have:=hI.ri.epn;have:=hI.ri.ep;omega) hLl hI.ri.esl hI.ri.ma hz hI.ri.inv (by omega) (hs.mem.take (js:=[5,7,6,10]) rfl)).mono hD) ?_ ⟨rfl,rfl,rfl,trivial⟩
    rintro v Fs ⟨A3,c3,z2,hz2,rfl,rfl⟩
    refine ⟨Sub.of (List.sublist_cons_self _ _) (List.Sublist.cons _ (List.Sublist.cons _ (List.Sublist.cons _ (List.Sublist.cons_cons _ (List.nil_sublist _))))),?_⟩
    refine ⟨Sub.of (List.sublist_cons_self _ _) (List.Sublist.cons _ (List.Sublist.cons _ (List.Sublist.cons _ (List.Sublist.cons_cons _ (List.nil_sublist _))))),?_⟩
    exact EntX.of (A3,c3,z2) hz2 (Ent.mk' ⟨rfl,rfl,rfl,rfl,rfl,rfl,rfl,trivial⟩ rfl (fun β w' hs=>(hs.keepB (List.Sublist.cons_cons _ (List.Sublist.cons_cons _ (List.nil_sublist _)))).perm [3,4,5,6,7,0,2,1,8,9,10,11,12]))
  rintro ⟨A3,c3,z2⟩ hz2
  simp only at hz2
  have hpl:=hI.ll
  refine z_aM (ι:=Option Addr×Nat×List (List UInt8)) g (fun i=>(e=0/\i.2.2=p.l++[tx])\/(¬e=0/\i.2.2=p.l)) 4 (fun _=>[(15,.c (.v (.string (mkS tx)))),(16,.c (.p 2 0)),(17,.c (.v (.int .i64 e))),(18,.c (.v (.string (mkS tx)))),(19,.c (.p 3 0)),(20,.c (.v (.int .i64 e)))])
   (fun _=>[⟨3,z_ad,tt.cells.map SL.v⟩,⟨2,z_an,tt.cells.map SL.v⟩]) (fun i=>[bkF p.pb z_am ({p with now:=now2,A:=i.1,c:=i.2.1,l:=i.2.2}:PR).vs,sRow i.1 i.2.2 i.2.1,dkF d2,rgF r,bxF r.bx B2 y2,rdkF (q2 A3 c3),rrF x,rbxF x.bx B2 z2]++tab5F) ?_ ?_
  rotate_left
  ·refine BIf.dec (fun he=>?_) (fun he=>?_)
   rotate_left
   ·exact EntX.of (p.A,p.c,p.l) (.inr ⟨he,rfl⟩) (Ent.mk' ⟨rfl,rfl,rfl,rfl,rfl,rfl,trivial⟩ rfl (fun β w' hs=>hs))
   refine ⟨.slice p.A p.l.length p.c,fun β w' hs=>z_ai (hs.get 0 rfl) (o:=3) rfl,?_⟩
   intro b1
   refine ⟨2,p.l.length,p.l.length+1,p.l.map strV,[strV tx],(p.l++[tx]).map strV,rfl,fun β w hs=>z_aj (hs.get 0 rfl),z_a9 rfl,rfl,by rw [List.map_append];rfl,by omega,by show (p.l.length+1)*16<=_;omega,?_⟩
   intro A4 c4 p4 p5 p6
   refine ⟨_,fun β w' hs=>hs.bkSet 1 (o:=3) (us:=[.slice A4 (p.l.length+1) c4]) rfl (by show 4<=5;decide) (z_a9 rfl),?_⟩
   refine EntX.of (A4,c4,p.l++[tx]) (.inl ⟨he,rfl⟩) (Ent.mk' ⟨rfl,rfl,rfl,rfl,rfl,rfl,trivial⟩ rfl (fun β w' hs=>?_))
   have h:=hs.perm [1,2,3,4,5,6,7,8,9,10,11,12,13]
   have el:(p.l++[tx]).length=p.l.length+1:=by rw [List.length_append];rfl
   unfold PR.vs
   simp only [sRow,el]
   exact h
  rintro ⟨A4,c4,l4⟩ hl4
  simp only at hl4
  have hdo:DoI r x B2 d2 (q2 A3 c3) {p with now:=now2,A:=A4,c:=c4,l:=l4} (n+1):=by
   have h:=hnext A3 c3
   refine ⟨h.ri,h.ep1,h.drb,h.qrb,h.ser,h.sn,h.life,h.kn,h.now,?_,?_,h.pd,h.pr,h.pq⟩
   ·show l4.length<=n+1
    rcases hl4 with ⟨_,rfl⟩ | ⟨_,rfl⟩
    ·rw [List.length_append];show _+1<=_;omega
    ·omega
   ·show∀s∈l4,0<s.length/\s.length<=300
    rcases hl4 with ⟨he,rfl⟩ | ⟨_,rfl⟩
    ·intro s hs
     rcases List.mem_append.1 hs with hs | hs
     ·exact hI.txt s hs
     ·obtain rfl:=List.mem_singleton.1 hs
      exact htx he
    ·exact hI.txt
  refine z_ae g ?_
  refine BIf.dec (fun _=>?_) (fun h=>absurd rfl h)
  refine ⟨true,fun β w'=>z_sY z_xP tt (.tmp 251) (.tmp 252) w',?_⟩
  refine z_aQ g ?_
  exact fun β w' hs=>((hs.keepB (List.nil_sublist _)).sep [0,1] rfl ⟨rfl,rfl,trivial⟩).fin [0,1,2,3,4,5,6] ⟨r,x,B2,d2,q2 A3 c3,{p with now:=now2,A:=A4,c:=c4,l:=l4},y2,z2,by show Value.bool (decide (e=e))=_;rw [decide_eq_true rfl],rfl,rfl,rfl,rfl,hdb,hqb A3 c3,rfl,hy2,hz2,hdo,rfl⟩ rfl rfl rfl ⟨rfl,rfl,rfl,rfl,rfl,rfl,rfl,trivial⟩
theorem z_zt {w:World} {m:Nat} {cs:List Value} (h:Opens Tryz.prog w m z_aF cs): ∃a b c:List UInt8,cs=[.string (mkS a),.string (mkS b),.string (mkS c)]:=by
 have cW:Tryz.prog.cellsOf z_aF=3:=by kernel_rfl
 have cT:Tryz.prog.cellsOf z_ak=1:=by kernel_rfl
 obtain ⟨m3,hl,hf⟩:=h.structT (ok50) rfl
 have f0:=hf 0 0 1 z_ak rfl rfl
 have f1:=hf 1 1 1 z_ak rfl rfl
 have f2:=hf 2 2 1 z_ak rfl rfl
 rw [cW] at hl
 rw [cT] at f0 f1 f2
 obtain ⟨x0,r0,rfl,k0⟩:=z_cN hl
 obtain ⟨x1,r1,rfl,k1⟩:=z_cN k0
 obtain ⟨x2,r2,rfl,k2⟩:=z_cN k1
 obtain rfl:=List.eq_nil_of_length_eq_zero k2
 have hs:Tryz.prog.underlying z_ak=some .string:=(ok9).real (d:= .string) rfl rfl
 obtain ⟨a,ha,_⟩:=f0.str hs
 obtain ⟨b,hb,_⟩:=f1.str hs
 obtain ⟨c,hc,_⟩:=f2.str hs
 simp at ha hb hc
 subst ha hb hc
 exact ⟨a.data.toList,b.data.toList,c.data.toList,by simp [mkS]⟩
def OpD.ok (o:OpD):Prop:=o.gen<18446744073709551616/\o.ticks<65536
theorem z_zc {w:World} {m:Nat} {cs:List Value} (h:Opens Tryz.prog w m z_ao cs): ∃o:OpD,cs=o.cells/\o.ok:=by
 have cT:Tryz.prog.cellsOf z_ao=10:=by kernel_rfl
 have cW:Tryz.prog.cellsOf z_aF=3:=by kernel_rfl
 have cU:Tryz.prog.cellsOf z_aA=1:=by kernel_rfl
 have c8:Tryz.prog.cellsOf z_ab=1:=by kernel_rfl
 have cS:Tryz.prog.cellsOf z_ak=1:=by kernel_rfl
 have cB:Tryz.prog.cellsOf z_lH=1:=by kernel_rfl
 have c6:Tryz.prog.cellsOf z_qV=1:=by kernel_rfl
 obtain ⟨m3,hl,hf⟩:=h.structT (ok53) rfl
 have f0:=hf 0 0 1 z_ab rfl rfl
 have f1:=hf 1 1 3 z_aF rfl rfl
 have f2:=hf 2 4 1 z_aA rfl rfl
 have f3:=hf 3 5 1 z_ab rfl rfl
 have f4:=hf 4 6 1 z_lH rfl rfl
 have f5:=hf 5 7 1 z_lH rfl rfl
 have f6:=hf 6 8 1 z_ak rfl rfl
 have f7:=hf 7 9 1 z_qV rfl rfl
 rw [cT] at hl
 rw [c8] at f0 f3
 rw [cW] at f1
 rw [cU] at f2
 rw [cB] at f4 f5
 rw [cS] at f6
 rw [c6] at f7
 obtain ⟨x0,r0,rfl,k0⟩:=z_cN hl
 obtain ⟨x1,r1,rfl,k1⟩:=z_cN k0
 obtain ⟨x2,r2,rfl,k2⟩:=z_cN k1
 obtain ⟨x3,r3,rfl,k3⟩:=z_cN k2
 obtain ⟨x4,r4,rfl,k4⟩:=z_cN k3
 obtain ⟨x5,r5,rfl,k5⟩:=z_cN k4
 obtain ⟨x6,r6,rfl,k6⟩:=z_cN k5
 obtain ⟨x7,r7,rfl,k7⟩:=z_cN k6
 obtain ⟨x8,r8,rfl,k8⟩:=z_cN k7
 obtain ⟨x9,r9,rfl,k9⟩:=z_cN k8
 obtain rfl:=List.eq_nil_of_length_eq_zero k9
 obtain ⟨d,hd⟩:=f0.u8 ((ok5).real (d:= .int .u8) rfl rfl)
 obtain ⟨a,b,c,hw⟩:=z_zt f1
 obtain ⟨n,hn,g1,g2⟩:=f2.int ((ok22).real (d:= .int .u64) rfl rfl)
 have g1:0<=n:=g1
 have g2:n<=18446744073709551615:=g2
 obtain ⟨wh,hwh⟩:=f3.u8 ((ok5).real (d:= .int .u8) rfl rfl)
 obtain ⟨ow,how⟩:=f4.bool ((ok4).real (d:= .bool) rfl rfl)
 obtain ⟨sp,hsp⟩:=f5.bool ((ok4).real (d:= .bool) rfl rfl)
 obtain ⟨tx,htx,_⟩:=f6.str ((ok9).real (d:= .string) rfl rfl)
 obtain ⟨ti,hti,g3,g4⟩:=f7.int ((ok51).real (d:= .int .u16) rfl rfl)
 have g3:0<=ti:=g3
 have g4:ti<=65535:=g4
 simp at hd hw hn hwh how hsp htx hti
 obtain ⟨rfl,rfl,rfl⟩:=hw
 subst hd hn hwh how hsp htx hti
 refine ⟨⟨d,a,b,c,n.toNat,wh,ow,sp,tx.data.toList,ti.toNat⟩,?_,by show n.toNat<_;omega,by show ti.toNat<_;omega⟩
 have e1:((n.toNat:Nat):Int)=n:=Int.toNat_of_nonneg g1
 have e2:((ti.toNat:Nat):Int)=ti:=Int.toNat_of_nonneg g3
 have e3:mkS tx.data.toList=tx:=by simp [mkS]
 unfold OpD.cells
 simp only [e1,e2,e3]
 rfl
theorem scriptT_of {w:World} {m:Nat} {A:Option Addr} {n c:Nat} (ho:Opens Tryz.prog w m z_jt [.slice A n c]): ∃ops:List OpD,ops.length=n/\Rd 10 A ops.length (ops.flatMap OpD.cells) w/\(∀o∈ops,o.ok)/\n<=maxLen:=by
 obtain ⟨A',n',c',xs,m2,hcs,h1,h2,hxl,hnil,hlen,hr,hx⟩:=ho.slice ((ok23).real (d:= .slice z_ao) rfl rfl)
 simp only [List.cons.injEq,and_true] at hcs
 injection hcs with e1 e2 e3
 subst e1 e2 e3
 have cO:Tryz.prog.cellsOf z_ao=10:=by kernel_rfl
 obtain ⟨ops,hol,hfl,hok⟩:=z_pi (f:=OpD.cells) (p:=OpD.ok) (xs:=xs) (fun x hxm=>z_zc (hx x hxm))
 rw [cO,hfl] at hr
 rw [<-hxl,<-hol] at hr
 exact ⟨ops,hol.trans hxl,hr,hok,Nat.le_trans h1 h2⟩
theorem z_s9 (w:World) (A B:Option Addr) (xs ys:List Int) (c d:Nat) (hx:Rd 1 A xs.length (xs.map (Value.int .u64)) w) (hy:Rd 1 B ys.length (ys.map (Value.int .u64)) w) (hn:xs.length<=1000000):
  Pu Tryz.prog z_cn #[.slice A xs.length c,.slice B ys.length d] w (.bool (decide (xs=ys))):=by
 have g:=z_eo w (Un [])
 refine z_ac (cx:=z_b9 w (Un [])) g z_fF rfl rfl (β:=Va.z) [.c (.v (.slice A xs.length c)),.c (.v (.slice B ys.length d))] 0 [] [oldF w] rfl rfl (z_aS rfl) ?_
 refine BIf.not (BIf.dec (fun he=>?_) (fun he=>?_))
 ·have hel:xs.length=ys.length:=by have h:(xs.length:Int)=ys.length:=he;omega
  refine z_ag (ι:=Nat) 0 (fun i=>[(0,.c (.v (.slice A xs.length c))),(1,.c (.v (.slice B ys.length d))),(12,.c (.v (.int .i64 (xs.length:Int)))),(13,.c (.v (.int .i64 (i:Int))))]) (fun _=>[]) (fun _=>[oldF w])
   (fun i=>i<=xs.length/\xs.take i=ys.take i) (fun i=>xs.length - i) 0 ⟨Nat.zero_le _,rfl⟩ (Ent.same ⟨rfl,rfl,rfl,rfl,trivial⟩ rfl) g ?_
  rintro i ⟨hi,hpre⟩
  refine BIf.dec (fun hlt=>?_) (fun hge=>?_)
  ·have hlt0:(i:Int)<xs.length:=hlt
   obtain ⟨x,hxi,_⟩:=at_lt (show i<xs.length by omega)
   obtain ⟨y,hyi,_⟩:=at_lt (show i<ys.length by omega)
   obtain ⟨ad,hA,_⟩:=hx.2 (by omega)
   obtain ⟨bd,hB,_⟩:=hy.2 (by omega)
   refine z_af g z_eH (by kernel_rfl) [] [oldF w] (subPerm [0]) ?_
   refine ⟨_,i,hA,rfl,by omega,?_⟩
   refine ⟨.int .u64 x,fun β w' hs=>Rd.cell1 (by have h:=Rd.old hx (hs.get 0 rfl);rw [hA] at h;exact h) (by rw [List.getElem?_map,hxi];rfl),?_⟩
   refine ⟨_,i,hB,rfl,by omega,?_⟩
   refine ⟨.int .u64 y,fun β w' hs=>Rd.cell1 (by have h:=Rd.old hy (hs.get 0 rfl);rw [hB] at h;exact h) (by rw [List.getElem?_map,hyi];rfl),?_⟩
   refine BIf.not (BIf.dec (fun hxy=>?_) (fun hxy=>?_))
   ·have hxy0:x=y:=hxy
    refine ⟨((i+1:Nat):Int),by rw [wrap_i64 (by omega) (by omega)];rfl,?_⟩
    exact ⟨i+1,⟨by omega,by rw [List.take_add_one,List.take_add_one,hxi,hyi,hpre,hxy0]⟩,by omega,Ent.same ⟨rfl,rfl,rfl,rfl,trivial⟩ rfl⟩
   ·have hxy0: ¬x=y:=hxy
    intro β w' hs
    exact hs.fin [] ⟨by rw [decide_eq_false (fun h=>hxy0 (by rw [h,hyi] at hxi;exact (Option.some.inj hxi).symm))];rfl,rfl⟩
  ·have hge0: ¬(i:Int)<xs.length:=hge
   have hxy:xs=ys:=by rw [List.take_of_length_le (by omega),List.take_of_length_le (by omega)] at hpre;exact hpre
   intro β w' hs
   exact hs.fin [] ⟨by rw [decide_eq_true hxy];rfl,rfl⟩
 ·have hne: ¬(xs.length:Int)=ys.length:=he
  intro β w' hs
  exact hs.fin [] ⟨by rw [decide_eq_false (fun h=>hne (by rw [h]))];rfl,rfl⟩
theorem z_rj {js:List Nat}: ∀ {F:List Fact} {i:Nat},(∀j∈js,j<i)->dropIx js i F=F
 | [],_,_=>rfl
 | f::r,i,h=>by
  have hm:memb js i=false:=by
   cases hb:memb js i with
   | false=>rfl
   | true=>have:=h i (z_n7 hb);omega
  simp only [dropIx,hm]
  rw [z_rj (fun j hj=>Nat.lt_succ_of_lt (h j hj))]
def box0 (sym:Bool):Bx.Box:=⟨sym,false,[]⟩
def lay0:Lay:=⟨none,0,0,[]⟩
theorem Sat.rbx0 {cx:Cx} {β:Va} {n:Nat} {H:List Bk} {F:List Fact} {w:World} {rb:Nat} {sym:Bool} (hs:Sat cx β n H (bkF rb z_aY [.bool sym,.slice none 0 0,.bool false]::F) w):Sat cx β n H (rbxF rb (box0 sym) lay0::F) w:=by
 have h1:=(hs.nilRow z_aJ 6).noMem (partsF []) (fun _ h=>(by cases h)) (fun k hk=>by obtain ⟨p,hp,_⟩:=hk;cases hp)
 have h2:=h1.sep [2,1,0] rfl ⟨rfl,rfl,rfl,trivial⟩
 have e:dropIx [2,1,0] 0 (partsF []::rowF z_aJ 6 (.slice none 0 0) 0 []::bkF rb z_aY [.bool sym,.slice none 0 0,.bool false]::F)=F:=by
  show dropIx [2,1,0] 3 F=F
  exact z_rj (fun j hj=>by simp only [List.mem_cons,List.not_mem_nil,or_false] at hj;omega)
 rw [e] at h2
 exact h2
theorem z_v9 {w:World} {Fs:List Fact} (ho: ∀f∈Fs,f.own=false) (hm:Mem w Fs):Mem w (oldF w::Fs):=by
 refine ⟨fun g hg=>?_,fun g hg k hk=>?_,List.pairwise_cons.2 ⟨fun g hg q=>?_,hm.sepf⟩⟩
 ·rcases List.mem_cons.1 hg with rfl | hg
  ·exact fun k _=>rfl
  ·exact hm.fact g hg
 ·rcases List.mem_cons.1 hg with rfl | hg
  ·exact hk
  ·exact hm.flt g hg k hk
 ·rcases q with q | q
  ·cases q
  ·rw [ho g hg] at q;cases q
def wkF (pb qb:Nat):Fact where
 own:=true
 D:=fun k=>k=pb
 p:=fun w=>w.cell? ((⟨pb,0,none⟩:Addr).add 2)=some (.pointer (some ⟨qb,0,none⟩))/\pb<w.heap.size
 st:=fun w w' hs h=>by
  have e:=hs pb rfl
  refine ⟨?_,?_⟩
  ·unfold World.cell? at h ⊢
   simp only [Addr.add] at h ⊢
   first
    | (rw [e];exact h.1)
    | exact e▸h.1
  ·rcases Nat.lt_or_ge pb w'.heap.size with q | q
   ·exact q
   ·rw [Array.getElem?_eq_none q,Array.getElem?_eq_getElem h.2] at e
    cases e
theorem z_gO {cx:Cx} {β:Va} {n:Nat} {H:List Bk} {F:List Fact} {w:World} {p:PR} {pb qb:Nat} (h1:p.pb=pb) (h2:p.qb=qb) (hs:Sat cx β n H (prF p::F) w):Sat cx β n H [wkF pb qb] w:=by
 subst h1 h2
 refine (hs.fuse [0] (wkF p.pb p.qb) (fun w hm=>?_) (fun k hk=>?_)).perm [0]
 ·have hm':Mem w [prF p]:=hm
  have hb:(bkF p.pb z_am p.vs).p w:=(hm'.fact (prF p) List.mem_cons_self).1 _ (by simp)
  exact ⟨z_ai hb (o:=2) rfl,hm'.flt (prF p) List.mem_cons_self p.pb ⟨bkF p.pb z_am p.vs,by simp,rfl⟩⟩
 ·obtain rfl:k=p.pb:=hk
  exact ⟨prF p,(List.mem_cons_self:prF p∈[prF p]),bkF p.pb z_am p.vs,by simp,rfl⟩
theorem opDRd {w:World} {ad:Addr} {ops:List OpD} (h:Rd 10 (some ad) ops.length (ops.flatMap OpD.cells) w) {k:Nat} {o:OpD} (ho:ops[k]?=some o): ∀j u,o.cells[j]?=some u->w.cell? ((ad.add (k*10)).add j)=some u:=by
 obtain ⟨hil,hie⟩:=List.getElem?_eq_some_iff.1 ho
 have h2:=Rd.elem (f:=OpD.cells) (fun _=>rfl) h rfl hil
 rw [hie] at h2
 exact h2
def z_sv:Plan:= .take 0 (.take 1 (.exec 2 (.take 3 (.take 4 (.take 5 (.take 7 (.take 8 (.take 9 (.take 10 (.take 11 (.take 12 (.alt 6 (.exec 13 (.take 14 (.take 15 (.take 16 (.take 17 (.take 20 (.take 21 (.take 22 (.take 23 (.exec 18 (.exec 19 (.exec 24 (.exec 25 (.take 26 (.take 27 .done))))))))))))))) (.exec 13 (.exec 6 (.take 14 (.take 15 (.take 16 (.take 17 (.take 20 (.take 21 (.take 22 (.take 23 (.exec 18 (.exec 19 (.exec 24 (.exec 25 (.take 26 (.take 27 .done))))))))))))))))))))))))))))
structure TJ where
 k:Nat
 r:Rg
 x:RR
 B:Bx.Box
 d:Dk
 q:RD
 p:PR
 y:Lay
 z:Lay
structure TJ.Ok (j:TJ) (n pb db qb:Nat):Prop where
 k:j.k<=n
 k30:j.k<=30
 pb:j.p.pb=pb
 db:j.d.b=db
 qb:j.q.b=qb
 dd:DoI j.r j.x j.B j.d j.q j.p j.k
 y:j.y.ts.map (·.1)=j.B.L
 z:j.z.ts.map (·.1)=j.B.L
set_option maxHeartbeats 4000000 in
theorem ticketPlays_c (w:World) (sym:Bool) (life:Nat) (A1:Option Addr) (ops:List OpD) (cA:Nat) (hA:Rd 10 A1 ops.length (ops.flatMap OpD.cells) w) (hin: ∀o∈ops,o.ok) (hn:ops.length<=9223372036854775807) (hm:Mem w tab5F):
  Con Tryz.prog z_cP #[.bool sym,.int .u64 (life:Int),.slice A1 ops.length cA] w [] fun v Fs=>v= .bool true/\Fs=[]:=by
 have hml:=maxLen_eq
 have g:=z_e1 w (Un [])
 refine z_cx (cx:=z_a6 w (Un [])) g z_gx [.c (.v (.bool sym)),.c (.v (.int .u64 (life:Int))),.c (.v (.slice A1 ops.length cA))] (oldF w::tab5F) (z_v9 (fun f hf=>by
  simp only [tab5F,List.mem_cons,List.not_mem_nil,or_false] at hf
  rcases hf with rfl | rfl | rfl | rfl | rfl<;>rfl) hm) ?_ ⟨rfl,rfl,rfl,rfl,rfl,rfl,trivial⟩
 refine z_ae g ?_
 refine z_ae g ?_
 refine z_aa [] (fun β w' hs=>z_v1 w' (hs.mem.take (js:=[1,2,4,5]) rfl)) ?_
 rintro v Fs ⟨rfl,rfl⟩
 refine z_ae g ?_
 refine z_aa [] (fun β w' hs=>z_xK w' sym) ?_
 rintro v Fs ⟨b0,y0,rfl,hy0,rfl⟩
 intro b1
 refine ⟨0,_,rfl,?_⟩
 have hi0:=box0i sym
 refine z_aa [1] (fun β w' hs=>z_xz w' b0 ⟨sym,false,[]⟩ y0 (some ⟨b1,0,none⟩) [109] 1 3 (by decide) (by decide) (by decide) (by decide) (by rw [hy0];rfl) hi0 (by show 0<4000;decide) (hs.mem.take (js:=[1,0,3,4]) rfl)) ?_
 rintro v Fs ⟨rp,mA,mc,mp,Ak,ck,y1,rfl,hy1,rfl⟩
 refine z_ae g ?_
 refine z_aa [] (fun β w' hs=>z_qN w' rp life) ?_
 rintro v Fs (⟨l1,l2,db,m1,m2,rfl,rfl⟩ | ⟨hl,rfl,rfl⟩)
 rotate_left
 ·refine z_aM (ι:=Bool) g (fun i=>i=false) 0 (fun i=>[(0,.c (.v (.bool sym))),(1,.c (.v (.int .u64 (life:Int)))),(2,.c (.v (.slice A1 ops.length cA))),(7,.c (.v (ptrR rp))),(9,.c (.v (.pointer none))),(10,.c (.v (.int .i64 1))),(11,.c (.v (.bool i)))]) (fun _=>[]) (fun _=>[rgF ((ring0 rp b0 mA mc [109] 3 mp).more Ak ck (macB ⟨sym,false,[]⟩ [109] (keyT 1).data.toList).1).cut,bxF b0 (macB ⟨sym,false,[]⟩ [109] (keyT 1).data.toList).2 y1,rdF 1 (some ⟨b1,0,none⟩) 1 [.int .u8 109],oldF w]++tab5F) ?_ ?_
  rotate_left
  ·refine BIf.dec (fun q1=>?_) (fun q1=>?_)
   ·have q10:(1:Int)<=(life:Int):=q1
    exact EntX.of (decide ((life:Int)<=1099511627776)) (decide_eq_false (by omega)) (Ent.mk' ⟨rfl,rfl,rfl,rfl,rfl,rfl,rfl,trivial⟩ rfl (fun β w' hs=>hs))
   ·have q10: ¬(1:Int)<=(life:Int):=q1
    exact EntX.of false rfl (Ent.mk' ⟨rfl,rfl,rfl,rfl,rfl,rfl,rfl,trivial⟩ rfl (fun β w' hs=>hs))
  rintro i rfl
  refine z_ae g ?_
  refine z_ae g ?_
  exact fun β w' hs=>(hs.keepB (List.nil_sublist _)).fin [] ⟨rfl,rfl⟩
 refine z_aM (ι:=Bool) g (fun i=>i=true) 0 (fun i=>[(0,.c (.v (.bool sym))),(1,.c (.v (.int .u64 (life:Int)))),(2,.c (.v (.slice A1 ops.length cA))),(7,.c (.v (ptrR rp))),(9,.c (.v (ptrD db))),(10,.c (.v (.int .i64 0))),(11,.c (.v (.bool i)))]) (fun _=>[]) (fun _=>dkF ⟨db,rp,life,0,m1,m2,[],[]⟩::([rgF ((ring0 rp b0 mA mc [109] 3 mp).more Ak ck (macB ⟨sym,false,[]⟩ [109] (keyT 1).data.toList).1).cut,bxF b0 (macB ⟨sym,false,[]⟩ [109] (keyT 1).data.toList).2 y1,rdF 1 (some ⟨b1,0,none⟩) 1 [.int .u8 109],oldF w]++tab5F)) ?_ ?_
 rotate_left
 ·refine BIf.dec (fun _=>?_) (fun h=>absurd (show (1:Int)<=(life:Int) by omega) h)
  exact EntX.of (decide ((life:Int)<=1099511627776)) (decide_eq_true (by omega)) (Ent.mk' ⟨rfl,rfl,rfl,rfl,rfl,rfl,rfl,trivial⟩ rfl (fun β w' hs=>hs))
 rintro i rfl
 refine z_ae g ?_
 refine z_ae g ?_
 refine z_id (z_w2 g 7 ?_)
 intro b2
 refine ⟨0,_,rfl,?_⟩
 refine z_um 0 (fun _=>[.bool sym,.slice none 0 0,.bool false]) rfl rfl (fun _=>rfl) (fun rb=>?_)
 refine z_wq (fun β w' hs=>hs.rbx0) ?_
 refine z_wZ g ?_
 refine z_aa [0] (fun β w' hs=>z_yX w' rb (box0 sym) lay0 (some ⟨b2,0,none⟩) [109] 1 3 (by decide) rfl hi0 (by show 0<4096;decide) (hs.mem.take (js:=[0,1,9]) rfl)) ?_
 rintro v Fs ⟨x,z1,rfl,hxb,hxm,hxr,hxe,hxs,hxc,hz1,rfl⟩
 have hRI:=RI.first (b:=rp) (bx:=b0) (mA:=mA) (mc:=mc) (m:=mp) (A:=Ak) (c:=ck) (show 1<=([109]:List UInt8).length by decide) (by decide) (show 1<=3 by decide) (by decide) hi0 (Nat.le_refl 0) hxm hxr hxe hxs hxc
 have e0:box0 sym=⟨sym,false,[]⟩:=rfl
 obtain ⟨r,hrE⟩: ∃r,((ring0 rp b0 mA mc [109] 3 mp).more Ak ck (macB ⟨sym,false,[]⟩ [109] (keyT 1).data.toList).1).cut=r:=⟨_,rfl⟩
 obtain ⟨B1,hB1⟩: ∃B1,(macB ⟨sym,false,[]⟩ [109] (keyT 1).data.toList).2=B1:=⟨_,rfl⟩
 have hrb:r.b=rp:=by rw [<-hrE,cut_b];rfl
 have hrx:r.bx=b0:=by rw [<-hrE,z_sR];rfl
 have hRI2:RI r x B1 1:=by rw [hrE,hB1] at hRI;exact hRI
 have hz1':z1.ts.map (·.1)=B1.L:=by rw [hz1,e0,hB1]
 have hy1':y1.ts.map (·.1)=B1.L:=by rw [hy1,hB1]
 clear hRI hz1 hy1
 refine z_fI 1 (fun _=>[ptrR x.b,.int .u64 (life:Int),.int .u64 0,.slice none 0 0]) rfl rfl (fun _=>rfl) (fun qb=>?_)
 refine z_fI 2 (fun _=>[ptrD db,ptrR rp,.pointer (some ⟨qb,0,none⟩),.slice none 0 0,.int .u64 0]) rfl rfl (fun _=>rfl) (fun pb=>?_)
 refine z_ha (F':=tdoF r x B1 ⟨db,rp,life,0,m1,m2,[],[]⟩ ⟨qb,x.b,life,0,none,0,[]⟩ ⟨pb,db,rp,qb,none,0,[],0⟩ y1 z1++oldF w::tab5F) (fun β w' hs=>by
  have k1:=(hs.nilRow z_aN 3).nilRow z_ak 1
  have k2:=(k1.sep [2,0] rfl ⟨rfl,rfl,trivial⟩).sep [2,1] rfl ⟨rfl,rfl,trivial⟩
  have h:Sat (z_a6 w (Un [])) β 3 [] ([prF ⟨pb,db,rp,qb,none,0,[],0⟩,dkF ⟨db,rp,life,0,m1,m2,[],[]⟩,rgF ((ring0 rp b0 mA mc [109] 3 mp).more Ak ck (macB ⟨sym,false,[]⟩ [109] (keyT 1).data.toList).1).cut,bxF b0 (macB ⟨sym,false,[]⟩ [109] (keyT 1).data.toList).2 y1,rdkF ⟨qb,x.b,life,0,none,0,[]⟩,rrF x,rbxF rb (macB ⟨sym,false,[]⟩ [109] (keyT 1).data.toList).2 z1]++oldF w::tab5F) w':=k2.perm [1,5,6,7,0,3,2,9,10,11,12,13,14]
  rw [hrE,hB1,<-hrx,<-hxb] at h
  exact h) ?_
 have hDo:DoI r x B1 ⟨db,rp,life,0,m1,m2,[],[]⟩ ⟨qb,x.b,life,0,none,0,[]⟩ ⟨pb,db,rp,qb,none,0,[],0⟩ 0:=
  ⟨hRI2,by have:=hRI2.ep;omega,hrb.symm,rfl,rfl,Nat.le_refl _,rfl,KnI.nil,Nat.zero_le _,Nat.le_refl _,(fun _ h=>by cases h),rfl,hrb.symm,rfl⟩
 refine z_id ?_
 refine z_ae g ?_
 refine z_b3 ?_
 refine z_gH (κ:=TJ) 0 (fun i=>i.Ok ops.length pb db qb) 0 (fun _=>[]) (fun _=>[]) (fun i=>tdoF i.r i.x i.B i.d i.q i.p i.y i.z++oldF w::tab5F) ?_ ?_
 ·intro i hi
  refine z_aQ g ?_
  exact fun β w' hs=>(hs.keepB (List.nil_sublist _)).fin [] ⟨rfl,rfl⟩
 refine z_ag (ι:=TJ) 0 (fun i=>[(9,.c (.v (ptrD db))),(12,.c (.v (.pointer (some ⟨pb,0,none⟩)))),(70,.c (.v (.slice A1 ops.length cA))),(71,.c (.v (.int .i64 ops.length))),(72,.c (.v (.int .i64 i.k)))]) (fun _=>[]) (fun i=>tdoF i.r i.x i.B i.d i.q i.p i.y i.z++oldF w::tab5F)
  (fun i=>i.Ok ops.length pb db qb) (fun i=>ops.length - i.k) ⟨0,r,x,B1,⟨db,rp,life,0,m1,m2,[],[]⟩,⟨qb,x.b,life,0,none,0,[]⟩,⟨pb,db,rp,qb,none,0,[],0⟩,y1,z1⟩ ⟨Nat.zero_le _,Nat.zero_le _,rfl,rfl,rfl,hDo,hy1',hz1'⟩ (Ent.mk' ⟨rfl,rfl,rfl,rfl,rfl,trivial⟩ rfl (fun β w' hs=>(hs.keepB (List.nil_sublist _)).lower)) g ?_
 intro i hi
 have hik:=hi.k
 have hik3:=hi.k30
 refine BIf.dec (fun hlt=>?_) (fun hge=>?_)
 rotate_left
 ·exact EntX.of i hi (Ent.mk' trivial rfl (fun β w' hs=>hs))
 have hlt0:(i.k:Int)<ops.length:=hlt
 have hkl:i.k<ops.length:=by omega
 obtain ⟨o,ho,hom⟩:=at_lt hkl
 obtain ⟨ad,hA1,_⟩:=hA.2 (by omega)
 refine ⟨ad,i.k,hA1,rfl,hkl,o.cells,rfl,fun β w' hs=>opDRd (by have h:=Rd.old hA (hs.get 7 rfl);rw [hA1] at h;exact h) ho,?_⟩
 refine BIf.dec (fun hge2=>?_) (fun hlt2=>?_)
 ·exact EntX.of i hi (Ent.mk' trivial rfl (fun β w' hs=>(hs.keepB (List.nil_sublist _)).lower))
 have hlt20: ¬(30:Int)<=(i.k:Int):=hlt2
 obtain ⟨ho1,ho2⟩:=hin o hom
 refine z_af g z_sv (by kernel_rfl) [⟨0,z_ao,o.cells.map SL.v⟩] [wkF pb qb] (fun β w hs=>z_gO hi.pb (hi.dd.pq.trans hi.qb) (hs.perm [0])) ?_
 refine z_aa [0,1,2,3,4,5,6] (R:=tdoOut i.r i.x i.d i.q i.p i.k) (fun β w' hs=>by
  rw [<-hi.pb]
  exact z_zO w' i.r i.x i.B i.d i.q i.p i.y i.z i.k o hi.dd (by omega) hi.y hi.z ho1 ho2 (hs.mem.take (js:=[0,1,2,3,4,5,6,8,9,10,11,12]) rfl)) ?_ ⟨rfl,rfl,rfl,rfl,rfl,rfl,rfl,trivial⟩
 rintro v Fs ⟨r2,x2,B2,d2,q2,p2,y2,z2,rfl,_,_,_,_,hd2,hq2,hp2,hy2,hz2,hD2,rfl⟩
 have hpb:p2.pb=pb:=hp2.trans hi.pb
 have hdb:d2.b=db:=hd2.trans hi.db
 have hqb:q2.b=qb:=hq2.trans hi.qb
 have hpq:p2.qb=qb:=hD2.pq.trans hqb
 refine ⟨fun β w hs=>z_gO hpb hpq (hs.perm [0]),?_⟩
 refine ⟨.pointer (some ⟨qb,0,none⟩),fun β w' hs=>(hs.get 0 rfl:(wkF pb qb).p w').1,?_⟩
 have hsn:=hD2.sn
 have hse:=hD2.ser
 have hln:=hD2.kn.ln
 have hser: ∀β w',Sat (z_a6 w (Un [])) β 1 [⟨0,z_ao,o.cells.map SL.v⟩] (tdoF r2 x2 B2 d2 q2 p2 y2 z2++oldF w::tab5F) w'->Pu Tryz.prog z_cT #[ptrD db] w' (.int .u64 (q2.serial:Int)):=fun β w' hs=>by
  have h:=z_ww w' d2 (hs.get 1 rfl) (hs.getLt 1 rfl)
  rw [hdb,hse] at h
  exact h
 have hld: ∀w',(rdkF q2).p w'->w'.cell? ((⟨qb,0,none⟩:Addr).add 2)=some (.int .u64 (q2.serial:Int)):=fun w' h=>by
  rw [<-hqb]
  exact z_ai (z_hx h) (o:=2) rfl
 have hgv: ∀bx,GivesN z_aG bx z_aw [ptrD db] (dkF d2) (dkF d2) d2.serial (fun xs=>xs=natsI (rvS q2.L)):=fun bx=>by
  have h:=z_vf bx d2 q2.L hD2.kn (by omega)
  rw [hdb] at h
  exact h
 have hnext:(TJ.mk (i.k+1) r2 x2 B2 d2 q2 p2 y2 z2).Ok ops.length pb db qb:=⟨hkl,by show i.k+1<=30;omega,hpb,hdb,hqb,hD2,hy2,hz2⟩
 refine ⟨?_,?_⟩
 ·refine z_ah (fun β w' hs=>hser β w' hs) ?_
  refine ⟨fun β w hs=>z_gO hpb hpq (hs.perm [0]),?_⟩
  refine ⟨_,fun β w' hs=>hld w' (hs.get 4 rfl),?_⟩
  refine ⟨fun β w hs=>z_gO hpb hpq (hs.perm [0]),?_⟩
  refine BIf.not (BIf.dec (fun _=>?_) (fun h=>absurd rfl h))
  refine ⟨.pointer (some ⟨qb,0,none⟩),fun β w' hs=>(hs.get 0 rfl:(wkF pb qb).p w').1,?_⟩
  refine z_aa [] (fun β w' hs=>z_q0 w' db) ?_
  rintro v Fs ⟨bx,rfl,rfl⟩
  refine ⟨fun β w hs=>z_gO hpb hpq (hs.perm [1]),?_⟩
  refine z_aa [0,2] (fun β w' hs=>z_kx w' z_aG bx z_aw [ptrD db] (dkF d2) (dkF d2) d2.serial _ (by kernel_rfl) rfl rfl (by omega) (hgv bx) (hs.mem.take (js:=[0,2]) rfl)) ?_
  rintro v Fs ⟨A9,c9,l9,rfl,hl9,_,_,rfl⟩
  refine ⟨fun β w hs=>z_gO hpb hpq (hs.perm [2]),?_⟩
  refine z_aa [5] (fun β w' hs=>by rw [<-hqb];exact z_nA w' q2 (by omega) (hs.mem.take (js:=[5]) rfl)) ?_
  rintro v Fs ⟨A10,c10,rfl,rfl⟩
  refine ⟨fun β w hs=>z_gO hpb hpq (hs.perm [4]),?_⟩
  refine z_ah (v:= .bool true) (fun β w' hs=>by
   have h:=z_s9 w' A9 A10 l9 (natsI (rvS q2.L)) c9 c10 (z_aj (hs.get 2 rfl)) (z_aj (hs.get 1 rfl)) (by rw [hl9];show (natsI (rvS q2.L)).length<=_;rw [List.length_map];have:=z_qe (L:=q2.L);omega)
   rw [decide_eq_true hl9] at h
   exact h) ?_
  refine ⟨fun β w hs=>z_gO hpb hpq (hs.perm [4]),?_⟩
  refine ⟨((i.k+1:Nat):Int),by rw [wrap_i64 (by omega) (by omega)];rfl,?_⟩
  exact ⟨⟨i.k+1,r2,x2,B2,d2,q2,p2,y2,z2⟩,hnext,by show ops.length - (i.k+1)<ops.length - i.k;omega,Ent.mk' ⟨rfl,rfl,rfl,rfl,rfl,trivial⟩ rfl (fun β w' hs=>((hs.keepB (List.nil_sublist _)).perm [4,3,5,6,0,7,8,9,10,11,12,13,14]).lower)⟩
 ·refine ⟨_,fun β w' hs=>hld w' (hs.get 4 rfl),?_⟩
  refine ⟨fun β w hs=>z_gO hpb hpq (hs.perm [0]),?_⟩
  refine z_ah (fun β w' hs=>hser β w' hs) ?_
  refine ⟨fun β w hs=>z_gO hpb hpq (hs.perm [0]),?_⟩
  refine BIf.not (BIf.dec (fun _=>?_) (fun h=>absurd rfl h))
  refine ⟨.pointer (some ⟨qb,0,none⟩),fun β w' hs=>(hs.get 0 rfl:(wkF pb qb).p w').1,?_⟩
  refine z_aa [] (fun β w' hs=>z_q0 w' db) ?_
  rintro v Fs ⟨bx,rfl,rfl⟩
  refine ⟨fun β w hs=>z_gO hpb hpq (hs.perm [1]),?_⟩
  refine z_aa [0,2] (fun β w' hs=>z_kx w' z_aG bx z_aw [ptrD db] (dkF d2) (dkF d2) d2.serial _ (by kernel_rfl) rfl rfl (by omega) (hgv bx) (hs.mem.take (js:=[0,2]) rfl)) ?_
  rintro v Fs ⟨A9,c9,l9,rfl,hl9,_,_,rfl⟩
  refine ⟨fun β w hs=>z_gO hpb hpq (hs.perm [2]),?_⟩
  refine z_aa [5] (fun β w' hs=>by rw [<-hqb];exact z_nA w' q2 (by omega) (hs.mem.take (js:=[5]) rfl)) ?_
  rintro v Fs ⟨A10,c10,rfl,rfl⟩
  refine ⟨fun β w hs=>z_gO hpb hpq (hs.perm [4]),?_⟩
  refine z_ah (v:= .bool true) (fun β w' hs=>by
   have h:=z_s9 w' A9 A10 l9 (natsI (rvS q2.L)) c9 c10 (z_aj (hs.get 2 rfl)) (z_aj (hs.get 1 rfl)) (by rw [hl9];show (natsI (rvS q2.L)).length<=_;rw [List.length_map];have:=z_qe (L:=q2.L);omega)
   rw [decide_eq_true hl9] at h
   exact h) ?_
  refine ⟨fun β w hs=>z_gO hpb hpq (hs.perm [4]),?_⟩
  refine ⟨((i.k+1:Nat):Int),by rw [wrap_i64 (by omega) (by omega)];rfl,?_⟩
  exact ⟨⟨i.k+1,r2,x2,B2,d2,q2,p2,y2,z2⟩,hnext,by show ops.length - (i.k+1)<ops.length - i.k;omega,Ent.mk' ⟨rfl,rfl,rfl,rfl,rfl,trivial⟩ rfl (fun β w' hs=>((hs.keepB (List.nil_sublist _)).perm [4,3,5,6,0,7,8,9,10,11,12,13,14]).lower)⟩
end Go.Proofs.YtfomhhkoamapmaaGreatDoor.Sx
namespace Go.Proofs.YtfomhhkoamapmaaGreatDoor.Sx
open Go
def RoOk (w:World) (f:Fact):Prop:=f.own=false/\f.p w/\ ∀k,f.D k->k<w.heap.size
theorem mem_ro {w:World} {Fs:List Fact} (h: ∀f∈Fs,RoOk w f):Mem w Fs:=by
 refine ⟨fun f hf=>(h f hf).2.1,fun f hf k hk=>(h f hf).2.2 k hk,?_⟩
 induction Fs with
 | nil=>exact List.Pairwise.nil
 | cons f r ih=>
  refine List.pairwise_cons.2 ⟨fun g hg q=>?_,ih (fun g hg=>h g (List.mem_cons_of_mem _ hg))⟩
  rcases q with q | q
  ·rw [(h f List.mem_cons_self).1] at q;cases q
  ·rw [(h g (List.mem_cons_of_mem _ hg)).1] at q;cases q
theorem rd_ok {w:World} {size:Nat} {A:Option Addr} {k:Nat} {xs:List Value} (h:Rd size A k xs w):RoOk w (rdF size A k xs):=⟨rfl,h,rd_lt h⟩
theorem ro_nil {w:World}: ∀f∈([]:List Fact),RoOk w f:=fun f h=>by cases h
theorem ro_cons {w:World} {f:Fact} {r:List Fact} (h1:RoOk w f) (h2: ∀g∈r,RoOk w g): ∀g∈f::r,RoOk w g:=fun g hg=>by
 rcases List.mem_cons.1 hg with rfl | hg
 ·exact h1
 ·exact h2 g hg
theorem nam_ok {w:World} (f:Forms 9 w) (s5:(spansF 7 blanksL).p w) (s6:(spansF 8 nothingL).p w) (s4:(spansF 4 barredL).p w):RoOk w namF:=by
 refine ⟨rfl,fun g hg=>?_,fun k hk=>?_⟩
 ·simp only [List.mem_cons,List.not_mem_nil,or_false] at hg
  rcases hg with rfl | rfl | rfl | rfl
  ·exact f
  ·exact s5
  ·exact s6
  ·exact s4
 ·obtain ⟨g,hg,hk⟩:=hk
  simp only [List.mem_cons,List.not_mem_nil,or_false] at hg
  rcases hg with rfl | rfl | rfl | rfl
  ·exact rd_lt f k hk
  ·exact rd_lt s5 k hk
  ·exact rd_lt s6 k hk
  ·exact rd_lt s4 k hk
theorem handed_shaped {H:Type} {enc:TypeId×Value->H} {a:Assume} {C:Checked} {os:Os} {f:FuncId} {fn:Func} {s:ChangeSpec} {conds:List PathCond} {apart fresh handsOn again:Bool} {X:World->Array Value->Prop}
  (hX: ∀(w w':World) (args:Array Value),w.heap=w'.heap->X w args->X w' args)
  (own:ownKnob C.prog.godebug=none) (started:os.Started) (noInit:C.prog.inits.idxOf? f=none) (hfn:C.prog.funcs[f]?=some fn)
  (witness: ∃(w:World) (tape:Tape) (i:Input),w.os=os/\(w.forCall tape i).Shaped C.prog/\i.vars=[]/\Input.okWide C.prog (w.forCall tape i) .any w.heap.size f i/\
   ((s.pre enc C.prog fn conds apart (w.forCall tape i).memory i.args/\X (w.forCall tape i).memory i.args)/\sizedMet enc C.prog fn (OpenSpec.ofChange s) apart (w.forCall tape i).memory i.args)/\a.holds C.prog (lone (Frame.enter C.prog f i.args .normal) [] (w.forCall tape i)))
  (key: ∀(W:World) (base:Nat) (args:Array Value) (ds gs:List (DataW H)) (before:List MemPlace),
   (∀(j:Nat) t v,fn.params[j]?=some t->args[j]?=some v->Value.okWide C.prog W .any base t v)->
   DataW.Whole enc C.prog fn.params.toList s.vars apart W args.toList ds gs before->X W args->W.ShapedOpen C.prog->
   Calls C.prog f args W fun e W'=> ∃v,e= .returned v/\s.post enc C.prog fn apart fresh handsOn again W args v W'):
  ReturnsInHanded a C os f .any (fun w args=>(s.pre enc C.prog fn conds apart w args/\X w args)/\sizedMet enc C.prog fn (OpenSpec.ofChange s) apart w args) (s.post enc C.prog fn apart fresh handsOn again):=by
 refine returnsInHanded_of_calls own started noInit witness (fun w tape i _ hshape _ hin hp _=>?_)
 obtain ⟨_,_,_,fn2,hfn2,_,_,_,_,hvals⟩:=hin
 obtain rfl:fn2=fn:=Option.some.inj (hfn2.symm.trans hfn)
 obtain ⟨⟨⟨ds,gs,before,hwh,_⟩,hx⟩,_⟩:=hp
 refine (key (w.forCall tape i) w.heap.size i.args ds gs before hvals (DataW.Whole.of_heap (w':=w.forCall tape i) (by rfl) hwh) (hX _ _ _ (by rfl) hx) hshape).mono fun e W' ⟨v,he,hq⟩=>?_
 subst he
 exact ChangeSpec.post_blind hq
theorem ml_of {w:World} (h:w.ShapedOpen Tryz.prog):mlF.p w:=
 cell_of_shapedOpen_int (P:=Tryz.prog) (g:=0) (t:=z_bE) (zero:= #[.int .i64 0]) h (of_decide_eq_true (by kernel_rfl)) (by kernel_rfl) rfl (by kernel_rfl) (by kernel_rfl) (ok3.real (d:= .int .i64) rfl rfl)
theorem ml_ok {w:World} (h:mlF.p w):RoOk w mlF:=by
 refine ⟨rfl,h,fun k hk=>?_⟩
 obtain ⟨m,hm⟩:=h
 obtain rfl:k=0:=hk
 unfold World.cell? at hm
 rcases Nat.lt_or_ge 0 w.heap.size with q | q
 ·exact q
 ·simp [Array.getElem?_eq_none q] at hm
end Go.Proofs.YtfomhhkoamapmaaGreatDoor.Sx
namespace Go.Proofs.YtfomhhkoamapmaaGreatDoor.Sx
open Go Go.RowKit
theorem below_of {w w':World} (h:Chg None_ w w'):Below w.heap.size w w':=
 ⟨h.os,h.tape,h.output,h.size,fun k hk=>h.same k hk (fun q=>q)⟩
end Go.Proofs.YtfomhhkoamapmaaGreatDoor.Sx
namespace Go.Proofs.YtfomhhkoamapmaaGreatDoor.Sx
open Go
theorem rd_of_ints {H:Type} {enc:TypeId×Value->H} {P:Program} {W:World} {base:Nat} {sp:Nat->Bool} {held:Bool} {fuel g n:Nat} {t e:TypeId} {k:IntKind} {cs:Array Value} {zs:List Int} {q:List MemPlace}
  (ht:P.underlying t=some (.array n e)) (he:P.underlying e=some (.int k)) (hc:P.cellsOf e=1) (hd:DataW.trod enc P W base sp held fuel t cs.toList=some (.agg (zs.map fun z=> .lit (.int k z)),q)) (hcell: ∀j,W.cell? ⟨g,j,none⟩=cs[j]?):
  Rd 1 (some ⟨g,0,none⟩) zs.length (zs.map (Value.int k)) W:=by
 obtain ⟨xs,m,_,hx,hlen,hn,hel⟩:=DataW.trod_array ht hd
 simp only [Prod.mk.injEq,DataW.agg.injEq] at hx
 have hzn:zs.length=n:=by
  have h9:=congrArg List.length hx.1
  simp only [List.length_map] at h9
  omega
 refine ⟨by simp,fun hp=>⟨_,rfl,fun j u hu=>?_⟩⟩
 rw [List.getElem?_map] at hu
 obtain ⟨z,hz,rfl⟩:=Option.map_eq_some_iff.1 hu
 have hj:j<zs.length:=(List.getElem?_eq_some_iff.1 hz).1
 have h1:=hel j (by omega)
 have h2:(xs.map (·.1))[j]?=some (.lit (.int k z)):=by rw [<-hx.1,List.getElem?_map,hz];rfl
 rw [List.getElem?_map] at h2
 obtain ⟨x,hxj,hx1⟩:=Option.map_eq_some_iff.1 h2
 rw [hxj,hc,Nat.mul_one] at h1
 obtain ⟨y,e1,e2,_⟩:=DataW.trod_int he h1
 have hy:y=z:=by
  rw [e2] at hx1
  simpa using hx1
 subst hy
 rw [z_bk,Nat.zero_add,hcell j,<-Array.getElem?_toList]
 have h3:=congrArg (fun l=>l[0]?) e1
 simpa [List.getElem?_drop] using h3
abbrev u32s (l:List UInt32):List Int:=l.map fun x=>(x.toNat:Int)
theorem rd_u32 {g:Nat} {W:World} {l:List UInt32} (h:Rd 1 (some ⟨g,0,none⟩) (u32s l).length ((u32s l).map (Value.int .u32)) W):Rd 1 (some ⟨g,0,none⟩) l.length (l.map u32) W:=by
 have e:(u32s l).map (Value.int .u32)=l.map u32:=by rw [List.map_map];rfl
 rw [e,List.length_map] at h
 exact h
end Go.Proofs.YtfomhhkoamapmaaGreatDoor.Sx
namespace Go.Proofs.YtfomhhkoamapmaaGreatDoor.Sx
open Go
mutual
def lits {H:Type}:DataW H->Option (List Value)
 | .lit (.int k n)=>some [.int k n]
 | .lit (.bool b)=>some [.bool b]
 | .lit (.string l)=>some [.string ⟨l.toArray⟩]
 | .agg ps=>litsL ps
 | _=>none
def litsL {H:Type}:List (DataW H)->Option (List Value)
 | []=>some []
 | d::r=>match lits d,litsL r with
  | some a,some b=>some (a++b)
  | _,_=>none
end
def contig (P:Program):List Field->Nat->Option Nat
 | [],o=>some o
 | f::r,o=>if f.offset=o then contig P r (o+P.cellsOf f.type) else none
def flatB (P:Program):Nat->TypeId->Bool
 | 0,_=>false
 | n+1,t=>match P.underlying t with
  | some (.int _) | some .bool | some .string=>true
  | some (.struct fs)=>(match contig P fs.toList 0 with | some e=>Nat.beq e (P.cellsOf t) | none=>false)&&fs.toList.all fun f=>flatB P n f.type
  | some (.array m e)=>Nat.beq (m*P.cellsOf e) (P.cellsOf t)&&flatB P n e
  | _=>false
section
variable {H:Type} {enc:TypeId×Value->H} {P:Program} {w:World} {base:Nat} {sp:Nat->Bool} {held:Bool}
theorem z_pS (m:Nat) (cs:List Value): ∀(fs:List Field) (xs:List (DataW H×List MemPlace)) (o e:Nat),contig P fs o=some e->xs.length=fs.length->
  (∀(i:Nat) (f:Field),fs[i]?=some f->DataW.trod enc P w base sp held m f.type ((cs.drop f.offset).take (P.cellsOf f.type))=xs[i]?)->
  (∀f∈fs,∀cs' x,DataW.trod enc P w base sp held m f.type cs'=some x->lits x.1=some cs')->o<=e/\litsL (xs.map (·.1))=some ((cs.drop o).take (e - o))
 | [],xs,o,e,hc,hl,_,_=>by
  obtain rfl:=Option.some.inj hc
  obtain rfl:=List.eq_nil_of_length_eq_zero hl
  exact ⟨Nat.le_refl _,by simp [litsL]⟩
 | f::r,[],o,e,hc,hl,_,_=>by cases hl
 | f::r,x::xs,o,e,hc,hl,h,ih=>by
  simp only [contig] at hc
  split at hc
  ·rename_i ho
   have h0:=h 0 f rfl
   rw [ho] at h0
   have h1:=ih f List.mem_cons_self _ x h0
   obtain ⟨h2,h3⟩:=z_pS m cs r xs _ e hc (by simpa using hl) (fun i g hg=>by
    have:=h (i+1) g (by simpa using hg)
    simpa using this) (fun g hg=>ih g (List.mem_cons_of_mem _ hg))
   refine ⟨by omega,?_⟩
   simp only [List.map_cons,litsL,h1,h3]
   congr 1
   have e1:e - o=P.cellsOf f.type+(e - (o+P.cellsOf f.type)):=by omega
   rw [e1,List.take_add,List.drop_drop]
  ·cases hc
theorem z_qH (m k:Nat) (ty:TypeId) (cs:List Value) (hk:P.cellsOf ty=k): ∀(n:Nat) (xs:List (DataW H×List MemPlace)) (o:Nat),xs.length=n->
  (∀i,i<n->DataW.trod enc P w base sp held m ty ((cs.drop (o+i*k)).take k)=xs[i]?)->
  (∀cs' x,DataW.trod enc P w base sp held m ty cs'=some x->lits x.1=some cs')->litsL (xs.map (·.1))=some ((cs.drop o).take (n*k))
 | 0,xs,o,hl,_,_=>by
  obtain rfl:=List.eq_nil_of_length_eq_zero hl
  simp [litsL]
 | n+1,[],o,hl,_,_=>by cases hl
 | n+1,x::xs,o,hl,h,ih=>by
  have h0:=h 0 (Nat.succ_pos _)
  rw [Nat.zero_mul,Nat.add_zero] at h0
  have h1:=ih _ x h0
  have h3:=z_qH m k ty cs hk n xs (o+k) (by simpa using hl) (fun i hi=>by
   have:=h (i+1) (by omega)
   rw [Nat.succ_mul,Nat.add_comm (i*k) k,<-Nat.add_assoc] at this
   simpa using this) ih
  simp only [List.map_cons,litsL,h1,h3]
  congr 1
  rw [Nat.succ_mul,Nat.add_comm (n*k) k,List.take_add,List.drop_drop]
theorem z_qd: ∀(k m:Nat) (t:TypeId) (cs:List Value) (x:DataW H×List MemPlace),flatB P k t=true->DataW.trod enc P w base sp held m t cs=some x->lits x.1=some cs
 | 0,_,_,_,_,h,_=>by cases h
 | k+1,m,t,cs,x,h,hd=>by
  unfold flatB at h
  split at h
  ·rename_i ht
   obtain ⟨n,rfl,rfl,_⟩:=DataW.trod_int ht hd
   rfl
  ·rename_i ht
   obtain ⟨n,rfl,rfl⟩:=DataW.trod_bool ht hd
   rfl
  ·rename_i ht
   obtain ⟨s,rfl,rfl,_⟩:=DataW.trod_string ht hd
   cases s with | mk a=>simp [lits,ByteArray.toList_eq]
  ·rename_i fs ht
   obtain ⟨xs,n,rfl,rfl,hl,hxl,hel⟩:=DataW.trod_struct ht hd
   simp only [Bool.and_eq_true] at h
   obtain ⟨hcon,hall⟩:=h
   cases hc:contig P fs.toList 0 with
   | none=>rw [hc] at hcon;cases hcon
   | some e=>
    rw [hc] at hcon
    have he:=Nat.eq_of_beq_eq_true hcon
    subst he
    have:=(z_pS n cs fs.toList xs 0 _ hc (by simpa using hxl) (fun i f hf=>hel i f (by simpa using hf)) (fun f hf cs' x' hx=>z_qd k n f.type cs' x' (List.all_eq_true.1 hall f hf) hx)).2
    simp only [lits,this,List.drop_zero,Nat.sub_zero]
    rw [<-hl,List.take_length]
  ·rename_i n e ht
   obtain ⟨xs,m',rfl,rfl,hl,hxl,hel⟩:=DataW.trod_array ht hd
   simp only [Bool.and_eq_true] at h
   have he:=Nat.eq_of_beq_eq_true h.1
   have:=z_qH m' (P.cellsOf e) e cs rfl n xs 0 hxl (fun i hi=>by rw [Nat.zero_add];exact hel i hi) (fun cs' x' hx=>z_qd k m' e cs' x' h.2 hx)
   simp only [lits,this,List.drop_zero,he]
   rw [<-hl,List.take_length]
  ·cases h
theorem rd_of_laid {g n size m:Nat} {t:TypeId} {cs:Array Value} {d:DataW H} {q:List MemPlace} {vs:List Value} (hf:flatB P 5 t=true) (hv:lits d=some vs) (hn:vs.length=n*size)
  (hd:DataW.trod enc P w base sp held m t cs.toList=some (d,q)) (hcell: ∀j,w.cell? ⟨g,j,none⟩=cs[j]?):Rd size (some ⟨g,0,none⟩) n vs w:=by
 have h:=z_qd 5 m t _ _ hf hd
 rw [hv] at h
 have h':=Option.some.inj h
 refine ⟨hn,fun _=>⟨_,rfl,fun j u hu=>?_⟩⟩
 rw [z_bk,Nat.zero_add,hcell j,<-Array.getElem?_toList,<-h']
 exact hu
end
end Go.Proofs.YtfomhhkoamapmaaGreatDoor.Sx
