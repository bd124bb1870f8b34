/- Texts joined: Pq4, Pq5, Pq6, Pq7, Pq8, Pq9, Pqa, Pqb, Pqc, Pqd, RgE, Tpc, Tpd, Tpe, SxCv, SxAf, Tpf, Rn5, Pd4R, MkR, Tkh, SmP, Tki, Tph, Tk7, Tpg, Tpi. -/
import Derived.Test.YtfomhhkoamapmaaGreatDoorMTicketPlays5
import Derived.Test.YtfomhhkoamapmaaGreatDoorMTicketPlays3
import Derived.Test.YtfomhhkoamapmaaGreatDoorMTicketPlays2
import Derived.Test.YtfomhhkoamapmaaGreatDoorMTicketPlays4
set_option linter.unusedVariables false
set_option linter.unusedSimpArgs false
namespace Go.Proofs.YtfomhhkoamapmaaGreatDoor.Sx
open Go
attribute [local irreducible] Calls
def RiseB (l:List Int) (a i j:Nat):Prop:= ∀p q,a<=p->p<q->q<=i->q≠j->at0 l p<=at0 l q
theorem RiseB.start {l:List Int} {a i:Nat} (h:Rise l a i):RiseB l a i i:=fun p q h0 h1 h2 h3=>h p q h0 h1 (by omega)
theorem RiseB.swap {l:List Int} {a i j:Nat} (h:RiseB l a i j) (h1:a+1<=j) (h2:j<=i) (h3:i<l.length) (hlt:at0 l j<at0 l (j - 1)):RiseB (swp l j (j - 1)) a i (j - 1):=by
 intro p q hap hpq hq hne
 rw [z_bI (by omega) (by omega),z_bI (by omega) (by omega),if_neg hne]
 by_cases b:q=j
 ·subst b
  rw [if_pos rfl]
  by_cases e:p=q - 1
  ·rw [if_pos e]
   omega
  ·rw [if_neg e,if_neg (by omega)]
   exact h p (q - 1) hap (by omega) (by omega) (by omega)
 ·rw [if_neg b]
  by_cases e:p=j - 1
  ·rw [if_pos e]
   exact h j q (by omega) (by omega) hq b
  ·rw [if_neg e]
   by_cases f:p=j
   ·rw [if_pos f]
    exact h (j - 1) q (by omega) (by omega) hq b
   ·rw [if_neg f]
    exact h p q hap hpq hq b
theorem RiseB.done {l:List Int} {a i j:Nat} (h:RiseB l a i j) (h2:j<=i) (hj:a+1<=j-> ¬at0 l j<at0 l (j - 1)):Rise l a (i+1):=by
 intro p q hap hpq hq
 by_cases b:q=j
 ·subst b
  have h3:=hj (by omega)
  by_cases e:p=q - 1
  ·subst e
   omega
  ·have:=h p (q - 1) hap (by omega) (by omega) (by omega)
   omega
 ·exact h p q hap hpq (by omega) b
structure InS where
 ys:List Int
 i:Nat
set_option maxHeartbeats 1000000 in
theorem z_zD (w:World) (A:Option Addr) (l:List Int) (c a b:Nat) (hl:l.length<=1000000) (ha:a<=l.length) (hb:b<=l.length) (hm:Mem w [urowF A l c]):
  Con Tryz.prog z_aW #[.slice A l.length c,.int .i64 (a:Int),.int .i64 (b:Int)] w [urowF A l c] fun v Fs=>v= .tuple #[]/\ ∃l',Seg l l' a b/\Rise l' a b/\Fs=[urowF A l' c]:=by
 by_cases hab:a+1<=b
 rotate_left
 ·have g:=z_aO w (Un [urowF A l c])
  refine z_dN (cx:=z_ap w (Un [urowF A l c])) g z_aV [.c (.v (.slice A l.length c)),.c (.v (.int .i64 (a:Int))),.c (.v (.int .i64 (b:Int)))] [] hm ?_
  refine ⟨((a+1:Nat):Int),by rw [wrap_i64 (by omega) (by omega)];rfl,?_⟩
  refine z_ag (ι:=Unit) 0 (fun _=>[(0,.c (.v (.slice A l.length c))),(1,.c (.v (.int .i64 (a:Int)))),(2,.c (.v (.int .i64 (b:Int)))),(6,.c (.v (.int .i64 ((a+1:Nat):Int))))]) (fun _=>[]) (fun _=>[urowF A l c])
   (fun _=>True) (fun _=>0) () trivial (Ent.mk' ⟨rfl,rfl,rfl,rfl,trivial⟩ rfl (fun β w' hs=>hs)) g ?_
  rintro ⟨⟩ -
  refine BIf.dec (fun h=>absurd (show ((a+1:Nat):Int)<(b:Int) from h) (by omega)) (fun _=>?_)
  exact fun β w' hs=>(hs.keepB (List.nil_sublist _)).fin [0] ⟨rfl,l,Seg.refl _ _ _,Rise.one _ (by omega),rfl⟩ rfl rfl rfl ⟨rfl,trivial⟩
 have g:=z_aO w (Un [urowF A l c])
 have hA:=z_dY (hm.fact _ List.mem_cons_self:(urowF A l c).p w)
 obtain ⟨g0,rfl⟩:=hA (by omega)
 refine z_dN (cx:=z_ap w (Un [urowF (some ⟨g0,0,none⟩) l c])) g z_aV [.c (.v (.slice (some ⟨g0,0,none⟩) l.length c)),.c (.v (.int .i64 (a:Int))),.c (.v (.int .i64 (b:Int)))] [] hm ?_
 refine ⟨((a+1:Nat):Int),by rw [wrap_i64 (by first | omega | (dsimp only;omega)) (by first | omega | (dsimp only;omega))];rfl,?_⟩
 obtain ⟨N,hN⟩: ∃N,l.length=N:=⟨_,rfl⟩
 rw [hN] at hl hb ⊢
 refine z_ag (ι:=InS) 0 (fun s=>[(0,.c (.v (.slice (some ⟨g0,0,none⟩) N c))),(1,.c (.v (.int .i64 (a:Int)))),(2,.c (.v (.int .i64 (b:Int)))),(6,.c (.v (.int .i64 (s.i:Int))))]) (fun _=>[]) (fun s=>[urowF (some ⟨g0,0,none⟩) s.ys c])
  (fun s=>Seg l s.ys a b/\Rise s.ys a s.i/\a+1<=s.i/\s.i<=b) (fun s=>b - s.i) ⟨l,a+1⟩ ⟨Seg.refl _ _ _,Rise.one _ (Nat.le_refl _),Nat.le_refl _,hab⟩ (Ent.mk' ⟨rfl,rfl,rfl,rfl,trivial⟩ rfl (fun β w' hs=>hs)) g ?_
 rintro ⟨ys0,i⟩ ⟨hy0,hr0,hi,hib⟩
 simp only at hy0 hr0 hi hib
 refine BIf.dec (fun hlt=>?_) (fun hge=>?_)
 ·have hlt:i<b:=by have h0:(i:Int)<(b:Int):=hlt;omega
  refine z_ag (ι:=InS) 0 (fun s=>[(0,.c (.v (.slice (some ⟨g0,0,none⟩) N c))),(1,.c (.v (.int .i64 (a:Int)))),(2,.c (.v (.int .i64 (b:Int)))),(6,.c (.v (.int .i64 (i:Int)))),(7,.c (.v (.int .i64 (s.i:Int))))]) (fun _=>[]) (fun s=>[urowF (some ⟨g0,0,none⟩) s.ys c])
   (fun s=>Seg l s.ys a b/\RiseB s.ys a i s.i/\a<=s.i/\s.i<=i) (fun s=>s.i) ⟨ys0,i⟩ ⟨hy0,RiseB.start hr0,by show a<=i;omega,Nat.le_refl _⟩ (Ent.same ⟨rfl,rfl,rfl,rfl,rfl,trivial⟩ rfl) g ?_
  rintro ⟨ys,j⟩ ⟨hy,hr,hj,hji⟩
  simp only at hy hr hj hji
  have hyl:ys.length=N:=by rw [hy.len,hN]
  refine z_af g z_be (by kernel_rfl) [] [urowF (some ⟨g0,0,none⟩) ys c] Sub.refl ?_
  refine BIf.dec (fun hj1=>?_) (fun hj1=>?_)
  ·have hj1:a<j:=by have h0:(a:Int)<(j:Int):=hj1;omega
   refine ⟨⟨g0,0,none⟩,j,rfl,rfl,by omega,.int .u64 (at0 ys j),fun β w' hs=>ucell hyl (by omega) hs,?_⟩
   refine ⟨((j - 1:Nat):Int),by rw [wrap_i64 (by first | omega | (dsimp only;omega)) (by first | omega | (dsimp only;omega))];first | omega | (dsimp only;omega),?_⟩
   refine ⟨⟨g0,0,none⟩,j - 1,rfl,rfl,by omega,.int .u64 (at0 ys (j - 1)),fun β w' hs=>ucell hyl (by omega) hs,?_⟩
   obtain ⟨bb,hbb⟩: ∃bb,decide (at0 ys j<at0 ys (j - 1))=bb:=⟨_,rfl⟩
   refine z_ah (v:= .bool bb) (fun β w' hs=>by rw [<-hbb];exact z_el w' _ _) ?_
   refine ⟨Sub.refl,?_⟩
   cases bb with
   | true=>
    have hlt2:at0 ys j<at0 ys (j - 1):=of_decide_eq_true hbb
    have hS: ∀ {n:Nat} {H:List Bk} {F:List Fact},Sub (z_ap w (Un [urowF (some ⟨g0,0,none⟩) l c])) n H F [] []:=fun {n H F}=>Sub.of (List.nil_sublist _) (List.nil_sublist _)
    refine z_af g z_bf (by kernel_rfl) [] [] hS ?_
    refine ⟨((j - 1:Nat):Int),by rw [wrap_i64 (by first | omega | (dsimp only;omega)) (by first | omega | (dsimp only;omega))];first | omega | (dsimp only;omega),?_⟩
    refine ⟨((j - 1:Nat):Int),by rw [wrap_i64 (by first | omega | (dsimp only;omega)) (by first | omega | (dsimp only;omega))];first | omega | (dsimp only;omega),?_⟩
    refine ⟨⟨g0,0,none⟩,j - 1,rfl,rfl,by omega,?_⟩
    refine ⟨⟨g0,0,none⟩,j,rfl,rfl,by omega,?_⟩
    refine ⟨?_,?_⟩
    ·refine ⟨.int .u64 (at0 ys (j - 1)),fun β w' hs=>ucell hyl (by omega) hs,?_⟩
     refine ⟨hS,?_⟩
     refine ⟨.int .u64 (at0 ys (j)),fun β w' hs=>ucell hyl (by omega) hs,?_⟩
     refine ⟨hS,?_⟩
     refine ⟨⟨g0,0,none⟩,j,rfl,rfl,by omega,?_⟩
     refine ⟨_,fun β w' hs=>Sat.rowSet hs (j:=0) (us:=[.int .u64 (at0 ys (j - 1))]) rfl (by show (j)*1+1<=ys.length*1;omega) (fun u hu=>by obtain rfl:=List.mem_singleton.1 hu;rfl),?_⟩
     refine ⟨hS,?_⟩
     refine ⟨⟨g0,0,none⟩,j - 1,rfl,rfl,by omega,?_⟩
     refine ⟨_,fun β w' hs=>Sat.rowSet hs (j:=0) (us:=[.int .u64 (at0 ys (j))]) rfl (by show (j - 1)*1+1<=ys.length*1;omega) (fun u hu=>by obtain rfl:=List.mem_singleton.1 hu;rfl),?_⟩
     refine ⟨hS,?_⟩
     refine ⟨((j - 1:Nat):Int),by rw [wrap_i64 (by first | omega | (dsimp only;omega)) (by first | omega | (dsimp only;omega))];first | omega | (dsimp only;omega),?_⟩
     exact ⟨⟨swp ys j (j - 1),j - 1⟩,⟨hy.trans (Seg.swp (by omega) (by omega) (by omega) (by omega) (by omega)),hr.swap (by omega) hji (by omega) hlt2,by show a<=j - 1;omega,by show j - 1<=i;omega⟩,by show j - 1<j;omega,Ent.mk' ⟨rfl,rfl,rfl,rfl,rfl,trivial⟩ rfl (fun β w' hs=>hs.swp)⟩
    ·refine ⟨.int .u64 (at0 ys (j)),fun β w' hs=>ucell hyl (by omega) hs,?_⟩
     refine ⟨hS,?_⟩
     refine ⟨.int .u64 (at0 ys (j - 1)),fun β w' hs=>ucell hyl (by omega) hs,?_⟩
     refine ⟨hS,?_⟩
     refine ⟨⟨g0,0,none⟩,j,rfl,rfl,by omega,?_⟩
     refine ⟨_,fun β w' hs=>Sat.rowSet hs (j:=0) (us:=[.int .u64 (at0 ys (j - 1))]) rfl (by show (j)*1+1<=ys.length*1;omega) (fun u hu=>by obtain rfl:=List.mem_singleton.1 hu;rfl),?_⟩
     refine ⟨hS,?_⟩
     refine ⟨⟨g0,0,none⟩,j - 1,rfl,rfl,by omega,?_⟩
     refine ⟨_,fun β w' hs=>Sat.rowSet hs (j:=0) (us:=[.int .u64 (at0 ys (j))]) rfl (by show (j - 1)*1+1<=ys.length*1;omega) (fun u hu=>by obtain rfl:=List.mem_singleton.1 hu;rfl),?_⟩
     refine ⟨hS,?_⟩
     refine ⟨((j - 1:Nat):Int),by rw [wrap_i64 (by first | omega | (dsimp only;omega)) (by first | omega | (dsimp only;omega))];first | omega | (dsimp only;omega),?_⟩
     exact ⟨⟨swp ys j (j - 1),j - 1⟩,⟨hy.trans (Seg.swp (by omega) (by omega) (by omega) (by omega) (by omega)),hr.swap (by omega) hji (by omega) hlt2,by show a<=j - 1;omega,by show j - 1<=i;omega⟩,by show j - 1<j;omega,Ent.mk' ⟨rfl,rfl,rfl,rfl,rfl,trivial⟩ rfl (fun β w' hs=>hs.swp)⟩
   | false=>
    refine ⟨((i+1:Nat):Int),by rw [wrap_i64 (by first | omega | (dsimp only;omega)) (by first | omega | (dsimp only;omega))];rfl,?_⟩
    exact ⟨⟨ys,i+1⟩,⟨hy,hr.done hji (fun _=>of_decide_eq_false hbb),by show a+1<=i+1;omega,hlt⟩,by show b - (i+1)<b - i;omega,Ent.same ⟨rfl,rfl,rfl,rfl,trivial⟩ rfl⟩
  ·have hj1: ¬a<j:=fun h=>hj1 (by show (a:Int)<(j:Int);omega)
   refine ⟨Sub.refl,?_⟩
   refine ⟨((i+1:Nat):Int),by rw [wrap_i64 (by first | omega | (dsimp only;omega)) (by first | omega | (dsimp only;omega))];rfl,?_⟩
   exact ⟨⟨ys,i+1⟩,⟨hy,hr.done hji (fun h=>by omega),by show a+1<=i+1;omega,hlt⟩,by show b - (i+1)<b - i;omega,Ent.same ⟨rfl,rfl,rfl,rfl,trivial⟩ rfl⟩
 ·have hge:i=b:=by have h0: ¬(i:Int)<(b:Int):=hge;omega
  exact fun β w' hs=>(hs.keepB (List.nil_sublist _)).fin [0] ⟨rfl,ys0,hy0,by rw [<-hge];exact hr0,rfl⟩ rfl rfl rfl ⟨rfl,trivial⟩
structure PtS2 where
 ys:List Int
 i:Nat
 j:Int
structure PEq (l ys:List Int) (a b i:Nat) (j x:Int):Prop where
 sg:Seg l ys a b
 px:at0 ys a=x
 li:a+1<=i
 lj:j<b
 ij:(i:Int)<=j+1
 lo: ∀q,a<=q->q<i->at0 ys q<=x
 hi: ∀q:Nat,j<q->q<b->x<at0 ys q
theorem z_uy {l ys:List Int} {a b i j:Nat} {x:Int} (hv:PEq l ys a b i (j:Int) x) (hij:i<j) (hjb:j<b) (hb:b<=ys.length) (_hl:ys.length<=1000000) (g1:x<at0 ys i) (g2:at0 ys j<=x):PEq l (swp ys i j) a b (i+1) ((j:Int) - 1) x:=by
 have hvi:=hv.li
 refine ⟨hv.sg.trans (Seg.swp hb (by omega) (by omega) (by omega) hjb),?_,by omega,by omega,by omega,fun q h1 h2=>?_,fun q h1 h2=>?_⟩
 ·rw [z_bI (by omega) (by omega),if_neg (by omega),if_neg (by omega)]
  exact hv.px
 ·rw [z_bI (by omega) (by omega),if_neg (by omega)]
  by_cases e:q=i
  ·rw [if_pos e];exact g2
  ·rw [if_neg e];exact hv.lo q h1 (by omega)
 ·rw [z_bI (by omega) (by omega)]
  by_cases e:q=j
  ·rw [if_pos e];exact g1
  ·rw [if_neg e,if_neg (by omega)];exact hv.hi q (by omega) h2
set_option maxHeartbeats 2000000 in
theorem pEq_c (w:World) (A:Option Addr) (l:List Int) (c a b p:Nat) (hl:l.length<=1000000) (hb:b<=l.length) (hp:a<=p) (hp2:p<b) (hm:Mem w [urowF A l c]):
  Con Tryz.prog z_bi #[.slice A l.length c,.int .i64 (a:Int),.int .i64 (b:Int),.int .i64 (p:Int)] w [urowF A l c] fun v Fs=> ∃(l':List Int) (m:Nat),v= .int .i64 (m:Int)/\Seg l l' a b/\a<m/\m<=b/\(∀q,a<=q->q<m->at0 l' q<=at0 l p)/\(∀q,m<=q->q<b->at0 l p<at0 l' q)/\Fs=[urowF A l' c]:=by
 have g:=z_cp w (Un [urowF A l c])
 have hA:=z_dY (hm.fact _ List.mem_cons_self:(urowF A l c).p w)
 obtain ⟨g0,rfl⟩:=hA (by omega)
 refine z_cx (cx:=z_aB w (Un [urowF (some ⟨g0,0,none⟩) l c])) g z_cW [.c (.v (.slice (some ⟨g0,0,none⟩) l.length c)),.c (.v (.int .i64 (a:Int))),.c (.v (.int .i64 (b:Int))),.c (.v (.int .i64 (p:Int)))] [] hm ?_
 obtain ⟨N,hN⟩: ∃N,l.length=N:=⟨_,rfl⟩
 refine z_ae g ?_
 refine z_aM (ι:=Unit) g (fun _=>True) 0 (fun _=>[(0,.c (.v (.slice (some ⟨g0,0,none⟩) l.length c))),(1,.c (.v (.int .i64 (a:Int)))),(2,.c (.v (.int .i64 (b:Int))))]) (fun _=>[]) (fun _=>[urowF (some ⟨g0,0,none⟩) (swp l a p) c]) ?_ ?_
 rotate_left
 ·skip
  have hS: ∀ {n:Nat} {H:List Bk} {F:List Fact},Sub (z_aB w (Un [urowF (some ⟨g0,0,none⟩) l c])) n H F [] []:=fun {n H F}=>Sub.of (List.nil_sublist _) (List.nil_sublist _)
  refine z_af g z_cD (by kernel_rfl) [] [] hS ?_
  refine ⟨⟨g0,0,none⟩,p,rfl,rfl,by omega,?_⟩
  refine ⟨⟨g0,0,none⟩,a,rfl,rfl,by omega,?_⟩
  refine ⟨?_,?_⟩
  ·refine ⟨.int .u64 (at0 l (p)),fun β w' hs=>ucell hN (by omega) hs,?_⟩
   refine ⟨hS,?_⟩
   refine ⟨.int .u64 (at0 l (a)),fun β w' hs=>ucell hN (by omega) hs,?_⟩
   refine ⟨hS,?_⟩
   refine ⟨⟨g0,0,none⟩,a,rfl,rfl,by omega,?_⟩
   refine ⟨_,fun β w' hs=>Sat.rowSet hs (j:=0) (us:=[.int .u64 (at0 l (p))]) rfl (by show (a)*1+1<=l.length*1;omega) (fun u hu=>by obtain rfl:=List.mem_singleton.1 hu;rfl),?_⟩
   refine ⟨hS,?_⟩
   refine ⟨⟨g0,0,none⟩,p,rfl,rfl,by omega,?_⟩
   refine ⟨_,fun β w' hs=>Sat.rowSet hs (j:=0) (us:=[.int .u64 (at0 l (a))]) rfl (by show (p)*1+1<=l.length*1;omega) (fun u hu=>by obtain rfl:=List.mem_singleton.1 hu;rfl),?_⟩
   refine ⟨hS,?_⟩
   exact EntX.of () trivial (Ent.mk' ⟨rfl,rfl,rfl,trivial⟩ rfl (fun β w' hs=>hs.swp))
  ·refine ⟨.int .u64 (at0 l (a)),fun β w' hs=>ucell hN (by omega) hs,?_⟩
   refine ⟨hS,?_⟩
   refine ⟨.int .u64 (at0 l (p)),fun β w' hs=>ucell hN (by omega) hs,?_⟩
   refine ⟨hS,?_⟩
   refine ⟨⟨g0,0,none⟩,a,rfl,rfl,by omega,?_⟩
   refine ⟨_,fun β w' hs=>Sat.rowSet hs (j:=0) (us:=[.int .u64 (at0 l (p))]) rfl (by show (a)*1+1<=l.length*1;omega) (fun u hu=>by obtain rfl:=List.mem_singleton.1 hu;rfl),?_⟩
   refine ⟨hS,?_⟩
   refine ⟨⟨g0,0,none⟩,p,rfl,rfl,by omega,?_⟩
   refine ⟨_,fun β w' hs=>Sat.rowSet hs (j:=0) (us:=[.int .u64 (at0 l (a))]) rfl (by show (p)*1+1<=l.length*1;omega) (fun u hu=>by obtain rfl:=List.mem_singleton.1 hu;rfl),?_⟩
   refine ⟨hS,?_⟩
   exact EntX.of () trivial (Ent.mk' ⟨rfl,rfl,rfl,trivial⟩ rfl (fun β w' hs=>hs.swp))
 rintro ⟨⟩ -
 rw [hN] at hl hb ⊢
 have hs1:Seg l (swp l a p) a b:=Seg.swp (by omega) (Nat.le_refl _) (by omega) hp hp2
 have hx1:at0 (swp l a p) a=at0 l p:=by
  rw [z_bI (by omega) (by omega)]
  by_cases e:a=p
  ·rw [if_pos e,e]
  ·rw [if_neg e,if_pos rfl]
 obtain ⟨x,hx⟩: ∃x,at0 l p=x:=⟨_,rfl⟩
 rw [hx] at hx1 ⊢
 have hlo0: ∀q,a<=q->q<a+1->at0 (swp l a p) q<=x:=fun q h1 h2=>by
  rw [show q=a by omega,hx1]
  exact Int.le_refl _
 refine z_ae g ?_
 refine ⟨((a+1:Nat):Int),by rw [wrap_i64 (by first | omega | (dsimp only;omega)) (by first | omega | (dsimp only;omega))];rfl,?_⟩
 refine ⟨(b:Int) - 1,by rw [wrap_i64 (by first | omega | (dsimp only;omega)) (by first | omega | (dsimp only;omega))],?_⟩
 refine z_ae g ?_
 refine z_ag (ι:=PtS2) 0 (fun s=>[(0,.c (.v (.slice (some ⟨g0,0,none⟩) N c))),(1,.c (.v (.int .i64 (a:Int)))),(9,.c (.v (.int .i64 (s.i:Int)))),(10,.c (.v (.int .i64 s.j)))]) (fun _=>[]) (fun s=>[urowF (some ⟨g0,0,none⟩) s.ys c])
  (fun s=>PEq l s.ys a b s.i s.j x) (fun s=>b - s.i) ⟨swp l a p,a+1,(b:Int) - 1⟩ ⟨hs1,hx1,Nat.le_refl _,by show (b:Int) - 1<b;omega,by show ((a+1:Nat):Int)<=(b:Int) - 1+1;omega,hlo0,fun q h1 h2=>absurd (show (b:Int) - 1<q from h1) (by omega)⟩ (Ent.mk' ⟨rfl,rfl,rfl,rfl,trivial⟩ rfl (fun β w' hs=>hs)) g ?_
 rintro ⟨ys0,i0,j0⟩ hv0
 simp only at hv0
 refine z_gH (κ:=PtS2) 2 (fun s=>PEq l s.ys a b s.i s.j x/\i0<=s.i/\((s.i:Int)<=s.j->x<at0 s.ys s.i)) 0 (fun s=>[(0,.c (.v (.slice (some ⟨g0,0,none⟩) N c))),(1,.c (.v (.int .i64 (a:Int)))),(9,.c (.v (.int .i64 (s.i:Int)))),(10,.c (.v (.int .i64 s.j)))]) (fun _=>[]) (fun s=>[urowF (some ⟨g0,0,none⟩) s.ys c]) ?_ ?_
 rotate_left
 ·refine z_ag (ι:=PtS2) 0 (fun s=>[(0,.c (.v (.slice (some ⟨g0,0,none⟩) N c))),(1,.c (.v (.int .i64 (a:Int)))),(9,.c (.v (.int .i64 (s.i:Int)))),(10,.c (.v (.int .i64 s.j)))]) (fun _=>[]) (fun s=>[urowF (some ⟨g0,0,none⟩) s.ys c])
   (fun s=>PEq l s.ys a b s.i s.j x/\i0<=s.i) (fun s=>b - s.i) ⟨ys0,i0,j0⟩ ⟨hv0,Nat.le_refl _⟩ (Ent.same ⟨rfl,rfl,rfl,rfl,trivial⟩ rfl) g ?_
  rintro ⟨ys,i,j⟩ ⟨hv,hi0⟩
  simp only at hv hi0
  have hyl:ys.length=N:=by rw [hv.sg.len,hN]
  have hvj:=hv.lj
  have hvi:=hv.li
  have hij:=hv.ij
  refine z_af g z_cy (by kernel_rfl) [] [urowF (some ⟨g0,0,none⟩) ys c] Sub.refl ?_
  refine BIf.dec (fun hle=>?_) (fun hle=>?_)
  ·have hle:(i:Int)<=j:=hle
   refine ⟨⟨g0,0,none⟩,a,rfl,rfl,by omega,.int .u64 (at0 ys a),fun β w' hs=>ucell hyl (by omega) hs,?_⟩
   refine ⟨⟨g0,0,none⟩,i,rfl,rfl,by omega,.int .u64 (at0 ys i),fun β w' hs=>ucell hyl (by omega) hs,?_⟩
   rw [hv.px]
   obtain ⟨bb,hbb⟩: ∃bb,decide (x<at0 ys i)=bb:=⟨_,rfl⟩
   refine z_ah (v:= .bool bb) (fun β w' hs=>by rw [<-hbb];exact z_el w' _ _) ?_
   refine ⟨Sub.refl,?_⟩
   cases bb with
   | true=>
    exact EntX.of ⟨ys,i,j⟩ ⟨hv,hi0,fun _=>of_decide_eq_true hbb⟩ (Ent.same ⟨rfl,rfl,rfl,rfl,trivial⟩ rfl)
   | false=>
    have hng: ¬x<at0 ys i:=of_decide_eq_false hbb
    refine ⟨((i+1:Nat):Int),by rw [wrap_i64 (by first | omega | (dsimp only;omega)) (by first | omega | (dsimp only;omega))];rfl,?_⟩
    exact ⟨⟨ys,i+1,j⟩,⟨⟨hv.sg,hv.px,by show a+1<=i+1;omega,hv.lj,by show ((i+1:Nat):Int)<=j+1;omega,fun q h1 h2=>by
     have h2:q<i+1:=h2
     by_cases e:q=i
     ·rw [e];exact Int.not_lt.1 hng
     ·exact hv.lo q h1 (by omega),hv.hi⟩,by show i0<=i+1;omega⟩,by show b - (i+1)<b - i;omega,Ent.same ⟨rfl,rfl,rfl,rfl,trivial⟩ rfl⟩
  ·have hle: ¬(i:Int)<=j:=hle
   refine ⟨Sub.refl,?_⟩
   exact EntX.of ⟨ys,i,j⟩ ⟨hv,hi0,fun h=>absurd h hle⟩ (Ent.same ⟨rfl,rfl,rfl,rfl,trivial⟩ rfl)
 rintro ⟨ys1,i1,j1⟩ ⟨hv1,hi1,hg1⟩
 simp only at hv1 hi1 hg1
 refine z_gH (κ:=PtS2) 4 (fun s=>PEq l s.ys a b s.i s.j x/\i0<=s.i/\((s.i:Int)<=s.j->x<at0 s.ys s.i)/\((s.i:Int)<=s.j->at0 s.ys s.j.toNat<=x)) 0 (fun s=>[(0,.c (.v (.slice (some ⟨g0,0,none⟩) N c))),(1,.c (.v (.int .i64 (a:Int)))),(9,.c (.v (.int .i64 (s.i:Int)))),(10,.c (.v (.int .i64 s.j)))]) (fun _=>[]) (fun s=>[urowF (some ⟨g0,0,none⟩) s.ys c]) ?_ ?_
 rotate_left
 ·refine z_ag (ι:=PtS2) 0 (fun s=>[(0,.c (.v (.slice (some ⟨g0,0,none⟩) N c))),(1,.c (.v (.int .i64 (a:Int)))),(9,.c (.v (.int .i64 (s.i:Int)))),(10,.c (.v (.int .i64 s.j)))]) (fun _=>[]) (fun s=>[urowF (some ⟨g0,0,none⟩) s.ys c])
   (fun s=>PEq l s.ys a b s.i s.j x/\i0<=s.i/\((s.i:Int)<=s.j->x<at0 s.ys s.i)) (fun s=>(s.j+1).toNat) ⟨ys1,i1,j1⟩ ⟨hv1,hi1,hg1⟩ (Ent.same ⟨rfl,rfl,rfl,rfl,trivial⟩ rfl) g ?_
  rintro ⟨ys,i,j⟩ ⟨hv,hi0,hgi⟩
  simp only at hv hi0 hgi
  have hyl:ys.length=N:=by rw [hv.sg.len,hN]
  have hvj:=hv.lj
  have hvi:=hv.li
  have hij:=hv.ij
  refine z_af g z_cz (by kernel_rfl) [] [urowF (some ⟨g0,0,none⟩) ys c] Sub.refl ?_
  refine BIf.dec (fun hle=>?_) (fun hle=>?_)
  ·have hle:(i:Int)<=j:=hle
   obtain ⟨k,rfl⟩: ∃k:Nat,j=(k:Int):=Int.eq_ofNat_of_zero_le (by omega)
   refine ⟨⟨g0,0,none⟩,a,rfl,rfl,by omega,.int .u64 (at0 ys a),fun β w' hs=>ucell hyl (by omega) hs,?_⟩
   refine ⟨⟨g0,0,none⟩,k,rfl,rfl,by omega,.int .u64 (at0 ys k),fun β w' hs=>ucell hyl (by omega) hs,?_⟩
   rw [hv.px]
   obtain ⟨bb,hbb⟩: ∃bb,decide (x<at0 ys k)=bb:=⟨_,rfl⟩
   refine z_ah (v:= .bool bb) (fun β w' hs=>by rw [<-hbb];exact z_el w' _ _) ?_
   refine ⟨Sub.refl,?_⟩
   cases bb with
   | true=>
    have hgt:x<at0 ys k:=of_decide_eq_true hbb
    refine ⟨(k:Int) - 1,by rw [wrap_i64 (by first | omega | (dsimp only;omega)) (by first | omega | (dsimp only;omega))],?_⟩
    exact ⟨⟨ys,i,(k:Int) - 1⟩,⟨⟨hv.sg,hv.px,hv.li,by show (k:Int) - 1<b;omega,by show (i:Int)<=(k:Int) - 1+1;omega,hv.lo,fun q h1 h2=>by
     have h1:(k:Int) - 1<q:=h1
     by_cases e:q=k
     ·rw [e];exact hgt
     ·exact hv.hi q (by omega) h2⟩,hi0,fun h=>hgi (by have h:(i:Int)<=(k:Int) - 1:=h;omega)⟩,by show ((k:Int) - 1+1).toNat<((k:Int)+1).toNat;omega,Ent.same ⟨rfl,rfl,rfl,rfl,trivial⟩ rfl⟩
   | false=>
    exact EntX.of ⟨ys,i,(k:Int)⟩ ⟨hv,hi0,hgi,fun _=>by have h:=of_decide_eq_false hbb;show at0 ys (k:Int).toNat<=x;rw [Int.toNat_natCast];omega⟩ (Ent.same ⟨rfl,rfl,rfl,rfl,trivial⟩ rfl)
  ·have hle: ¬(i:Int)<=j:=hle
   refine ⟨Sub.refl,?_⟩
   exact EntX.of ⟨ys,i,j⟩ ⟨hv,hi0,hgi,fun h=>absurd h hle⟩ (Ent.same ⟨rfl,rfl,rfl,rfl,trivial⟩ rfl)
 rintro ⟨ys,i,j⟩ ⟨hv,hi0,hgi,hgj⟩
 simp only at hv hi0 hgi hgj
 have hyl:ys.length=N:=by rw [hv.sg.len,hN]
 have hvj:=hv.lj
 have hvi:=hv.li
 have hij:=hv.ij
 refine BIf.dec (fun hgt=>?_) (fun hgt=>?_)
 ·have hgt:j<i:=hgt
  refine z_ae g ?_
  refine z_aQ g ?_
  exact fun β w' hs=>(hs.keepB (List.nil_sublist _)).fin [0] ⟨ys,i,rfl,hv.sg,by omega,by omega,hv.lo,fun q h1 h2=>hv.hi q (by omega) h2,rfl⟩ rfl rfl rfl ⟨rfl,trivial⟩
 ·have hle:(i:Int)<=j:=by have h: ¬j<(i:Int):=hgt;omega
  obtain ⟨j,rfl⟩: ∃k:Nat,j=(k:Int):=Int.eq_ofNat_of_zero_le (by omega)
  have g1:=hgi hle
  have g2:=hgj hle
  rw [Int.toNat_natCast] at g2
  have hne:i≠j:=fun e=>by rw [e] at g1;omega
  have hS: ∀ {n:Nat} {H:List Bk} {F:List Fact},Sub (z_aB w (Un [urowF (some ⟨g0,0,none⟩) l c])) n H F [] []:=fun {n H F}=>Sub.of (List.nil_sublist _) (List.nil_sublist _)
  refine z_af g z_cr (by kernel_rfl) [] [] hS ?_
  refine ⟨⟨g0,0,none⟩,j,rfl,rfl,by omega,?_⟩
  refine ⟨⟨g0,0,none⟩,i,rfl,rfl,by omega,?_⟩
  refine ⟨?_,?_⟩
  ·refine ⟨.int .u64 (at0 ys (j)),fun β w' hs=>ucell hyl (by omega) hs,?_⟩
   refine ⟨hS,?_⟩
   refine ⟨.int .u64 (at0 ys (i)),fun β w' hs=>ucell hyl (by omega) hs,?_⟩
   refine ⟨hS,?_⟩
   refine ⟨⟨g0,0,none⟩,i,rfl,rfl,by omega,?_⟩
   refine ⟨_,fun β w' hs=>Sat.rowSet hs (j:=0) (us:=[.int .u64 (at0 ys (j))]) rfl (by show (i)*1+1<=ys.length*1;omega) (fun u hu=>by obtain rfl:=List.mem_singleton.1 hu;rfl),?_⟩
   refine ⟨hS,?_⟩
   refine ⟨⟨g0,0,none⟩,j,rfl,rfl,by omega,?_⟩
   refine ⟨_,fun β w' hs=>Sat.rowSet hs (j:=0) (us:=[.int .u64 (at0 ys (i))]) rfl (by show (j)*1+1<=ys.length*1;omega) (fun u hu=>by obtain rfl:=List.mem_singleton.1 hu;rfl),?_⟩
   refine ⟨hS,?_⟩
   refine ⟨((i+1:Nat):Int),by rw [wrap_i64 (by first | omega | (dsimp only;omega)) (by first | omega | (dsimp only;omega))];rfl,?_⟩
   refine ⟨(j:Int) - 1,by rw [wrap_i64 (by first | omega | (dsimp only;omega)) (by first | omega | (dsimp only;omega))],?_⟩
   exact ⟨⟨swp ys i j,i+1,(j:Int) - 1⟩,z_uy hv (by omega) (by omega) (by omega) (by omega) g1 g2,by show b - (i+1)<b - i0;omega,Ent.mk' ⟨rfl,rfl,rfl,rfl,trivial⟩ rfl (fun β w' hs=>hs.swp)⟩
  ·refine ⟨.int .u64 (at0 ys (i)),fun β w' hs=>ucell hyl (by omega) hs,?_⟩
   refine ⟨hS,?_⟩
   refine ⟨.int .u64 (at0 ys (j)),fun β w' hs=>ucell hyl (by omega) hs,?_⟩
   refine ⟨hS,?_⟩
   refine ⟨⟨g0,0,none⟩,i,rfl,rfl,by omega,?_⟩
   refine ⟨_,fun β w' hs=>Sat.rowSet hs (j:=0) (us:=[.int .u64 (at0 ys (j))]) rfl (by show (i)*1+1<=ys.length*1;omega) (fun u hu=>by obtain rfl:=List.mem_singleton.1 hu;rfl),?_⟩
   refine ⟨hS,?_⟩
   refine ⟨⟨g0,0,none⟩,j,rfl,rfl,by omega,?_⟩
   refine ⟨_,fun β w' hs=>Sat.rowSet hs (j:=0) (us:=[.int .u64 (at0 ys (i))]) rfl (by show (j)*1+1<=ys.length*1;omega) (fun u hu=>by obtain rfl:=List.mem_singleton.1 hu;rfl),?_⟩
   refine ⟨hS,?_⟩
   refine ⟨((i+1:Nat):Int),by rw [wrap_i64 (by first | omega | (dsimp only;omega)) (by first | omega | (dsimp only;omega))];rfl,?_⟩
   refine ⟨(j:Int) - 1,by rw [wrap_i64 (by first | omega | (dsimp only;omega)) (by first | omega | (dsimp only;omega))],?_⟩
   exact ⟨⟨swp ys i j,i+1,(j:Int) - 1⟩,z_uy hv (by omega) (by omega) (by omega) (by omega) g1 g2,by show b - (i+1)<b - i0;omega,Ent.mk' ⟨rfl,rfl,rfl,rfl,trivial⟩ rfl (fun β w' hs=>hs.swp)⟩
structure PLt (l ys:List Int) (a b i:Nat) (j x:Int):Prop where
 sg:Seg l ys a b
 px:at0 ys a=x
 li:a+1<=i
 lj:j<b
 ij:(i:Int)<=j+1
 lo: ∀q,a<q->q<i->at0 ys q<x
 hi: ∀q:Nat,j<q->q<b->x<=at0 ys q
theorem z_st {l ys:List Int} {a b i j:Nat} {x:Int} (hv:PLt l ys a b i (j:Int) x) (hij:i<j) (hjb:j<b) (hb:b<=ys.length) (g1: ¬at0 ys i<x) (g2:at0 ys j<x):PLt l (swp ys i j) a b (i+1) ((j:Int) - 1) x:=by
 have hvi:=hv.li
 refine ⟨hv.sg.trans (Seg.swp hb (by omega) (by omega) (by omega) hjb),?_,by omega,by omega,by omega,fun q h1 h2=>?_,fun q h1 h2=>?_⟩
 ·rw [z_bI (by omega) (by omega),if_neg (by omega),if_neg (by omega)]
  exact hv.px
 ·rw [z_bI (by omega) (by omega),if_neg (by omega)]
  by_cases e:q=i
  ·rw [if_pos e];exact g2
  ·rw [if_neg e];exact hv.lo q h1 (by omega)
 ·rw [z_bI (by omega) (by omega)]
  by_cases e:q=j
  ·rw [if_pos e];exact Int.not_lt.1 g1
  ·rw [if_neg e,if_neg (by omega)];exact hv.hi q (by omega) h2
theorem z_vp {l ys:List Int} {a b i j:Nat} {x:Int} (hv:PLt l ys a b i (j:Int) x) (hji:j<i) (hb:b<=ys.length) (hab:a<b):Seg l (swp ys j a) a b/\a<=j/\j<b/\at0 (swp ys j a) j=x/\(∀q,a<=q->q<j->at0 (swp ys j a) q<=x)/\(∀q,j<q->q<b->x<=at0 (swp ys j a) q):=by
 have hvi:=hv.li
 have hvj:=hv.lj
 have hij:=hv.ij
 refine ⟨hv.sg.trans (Seg.swp hb (by omega) (by omega) (Nat.le_refl _) hab),by omega,by omega,?_,fun q h1 h2=>?_,fun q h1 h2=>?_⟩
 ·rw [z_bI (by omega) (by omega)]
  by_cases e:j=a
  ·rw [if_pos e,e];exact hv.px
  ·rw [if_neg e,if_pos rfl];exact hv.px
 ·rw [z_bI (by omega) (by omega)]
  by_cases e:q=a
  ·rw [if_pos e];exact Int.le_of_lt (hv.lo j (by omega) (by omega))
  ·rw [if_neg e,if_neg (by omega)];exact Int.le_of_lt (hv.lo q (by omega) (by omega))
 ·rw [z_bI (by omega) (by omega),if_neg (by omega),if_neg (by omega)]
  exact hv.hi q (by omega) h2
set_option maxHeartbeats 4000000 in
theorem z_yF (w:World) (A:Option Addr) (l:List Int) (c a b p:Nat) (hl:l.length<=1000000) (hb:b<=l.length) (hp:a<=p) (hp2:p<b) (hm:Mem w [urowF A l c]):
  Con Tryz.prog z_bA #[.slice A l.length c,.int .i64 (a:Int),.int .i64 (b:Int),.int .i64 (p:Int)] w [urowF A l c] fun v Fs=> ∃(l':List Int) (m:Nat) (f:Bool),v= .tuple #[.int .i64 (m:Int),.bool f]/\Seg l l' a b/\a<=m/\m<b/\at0 l' m=at0 l p/\(∀q,a<=q->q<m->at0 l' q<=at0 l p)/\(∀q,m<q->q<b->at0 l p<=at0 l' q)/\Fs=[urowF A l' c]:=by
 have g:=z_dc w (Un [urowF A l c])
 have hA:=z_dY (hm.fact _ List.mem_cons_self:(urowF A l c).p w)
 obtain ⟨g0,rfl⟩:=hA (by omega)
 refine z_cx (cx:=z_au w (Un [urowF (some ⟨g0,0,none⟩) l c])) g z_d0 [.c (.v (.slice (some ⟨g0,0,none⟩) l.length c)),.c (.v (.int .i64 (a:Int))),.c (.v (.int .i64 (b:Int))),.c (.v (.int .i64 (p:Int)))] [] hm ?_
 obtain ⟨N,hN⟩: ∃N,l.length=N:=⟨_,rfl⟩
 refine z_ae g ?_
 refine z_aM (ι:=Unit) g (fun _=>True) 0 (fun _=>[(0,.c (.v (.slice (some ⟨g0,0,none⟩) l.length c))),(1,.c (.v (.int .i64 (a:Int)))),(2,.c (.v (.int .i64 (b:Int))))]) (fun _=>[]) (fun _=>[urowF (some ⟨g0,0,none⟩) (swp l a p) c]) ?_ ?_
 rotate_left
 ·skip
  have hS: ∀ {n:Nat} {H:List Bk} {F:List Fact},Sub (z_au w (Un [urowF (some ⟨g0,0,none⟩) l c])) n H F [] []:=fun {n H F}=>Sub.of (List.nil_sublist _) (List.nil_sublist _)
  refine z_af g z_dz (by kernel_rfl) [] [] hS ?_
  refine ⟨⟨g0,0,none⟩,p,rfl,rfl,by omega,?_⟩
  refine ⟨⟨g0,0,none⟩,a,rfl,rfl,by omega,?_⟩
  refine ⟨?_,?_⟩
  ·refine ⟨.int .u64 (at0 l (p)),fun β w' hs=>ucell hN (by omega) hs,?_⟩
   refine ⟨hS,?_⟩
   refine ⟨.int .u64 (at0 l (a)),fun β w' hs=>ucell hN (by omega) hs,?_⟩
   refine ⟨hS,?_⟩
   refine ⟨⟨g0,0,none⟩,a,rfl,rfl,by omega,?_⟩
   refine ⟨_,fun β w' hs=>Sat.rowSet hs (j:=0) (us:=[.int .u64 (at0 l (p))]) rfl (by show (a)*1+1<=l.length*1;omega) (fun u hu=>by obtain rfl:=List.mem_singleton.1 hu;rfl),?_⟩
   refine ⟨hS,?_⟩
   refine ⟨⟨g0,0,none⟩,p,rfl,rfl,by omega,?_⟩
   refine ⟨_,fun β w' hs=>Sat.rowSet hs (j:=0) (us:=[.int .u64 (at0 l (a))]) rfl (by show (p)*1+1<=l.length*1;omega) (fun u hu=>by obtain rfl:=List.mem_singleton.1 hu;rfl),?_⟩
   refine ⟨hS,?_⟩
   exact EntX.of () trivial (Ent.mk' ⟨rfl,rfl,rfl,trivial⟩ rfl (fun β w' hs=>hs.swp))
  ·refine ⟨.int .u64 (at0 l (a)),fun β w' hs=>ucell hN (by omega) hs,?_⟩
   refine ⟨hS,?_⟩
   refine ⟨.int .u64 (at0 l (p)),fun β w' hs=>ucell hN (by omega) hs,?_⟩
   refine ⟨hS,?_⟩
   refine ⟨⟨g0,0,none⟩,a,rfl,rfl,by omega,?_⟩
   refine ⟨_,fun β w' hs=>Sat.rowSet hs (j:=0) (us:=[.int .u64 (at0 l (p))]) rfl (by show (a)*1+1<=l.length*1;omega) (fun u hu=>by obtain rfl:=List.mem_singleton.1 hu;rfl),?_⟩
   refine ⟨hS,?_⟩
   refine ⟨⟨g0,0,none⟩,p,rfl,rfl,by omega,?_⟩
   refine ⟨_,fun β w' hs=>Sat.rowSet hs (j:=0) (us:=[.int .u64 (at0 l (a))]) rfl (by show (p)*1+1<=l.length*1;omega) (fun u hu=>by obtain rfl:=List.mem_singleton.1 hu;rfl),?_⟩
   refine ⟨hS,?_⟩
   exact EntX.of () trivial (Ent.mk' ⟨rfl,rfl,rfl,trivial⟩ rfl (fun β w' hs=>hs.swp))
 rintro ⟨⟩ -
 rw [hN] at hl hb ⊢
 have hs1:Seg l (swp l a p) a b:=Seg.swp (by omega) (Nat.le_refl _) (by omega) hp hp2
 have hx1:at0 (swp l a p) a=at0 l p:=by
  rw [z_bI (by omega) (by omega)]
  by_cases e:a=p
  ·rw [if_pos e,e]
  ·rw [if_neg e,if_pos rfl]
 obtain ⟨x,hx⟩: ∃x,at0 l p=x:=⟨_,rfl⟩
 rw [hx] at hx1 ⊢
 obtain ⟨i0,hi0e⟩: ∃i0,a+1=i0:=⟨_,rfl⟩
 have hv0:PLt l (swp l a p) a b i0 ((b:Int) - 1) x:=⟨hs1,hx1,by omega,by omega,by omega,fun q h1 h2=>by omega,fun q h1 h2=>by omega⟩
 refine z_ae g ?_
 refine ⟨(i0:Int),by rw [wrap_i64 (by omega) (by omega)];omega,?_⟩
 refine ⟨(b:Int) - 1,by rw [wrap_i64 (by first | omega | (dsimp only;omega)) (by first | omega | (dsimp only;omega))],?_⟩
 refine z_ae g ?_
 refine z_gH (κ:=PtS2) 0 (fun s=>PLt l s.ys a b s.i s.j x/\i0<=s.i/\((s.i:Int)<=s.j-> ¬at0 s.ys s.i<x)) 0 (fun s=>[(0,.c (.v (.slice (some ⟨g0,0,none⟩) N c))),(1,.c (.v (.int .i64 (a:Int)))),(10,.c (.v (.int .i64 (s.i:Int)))),(11,.c (.v (.int .i64 s.j)))]) (fun _=>[]) (fun s=>[urowF (some ⟨g0,0,none⟩) s.ys c]) ?_ ?_
 rotate_left
 ·refine z_ag (ι:=PtS2) 0 (fun s=>[(0,.c (.v (.slice (some ⟨g0,0,none⟩) N c))),(1,.c (.v (.int .i64 (a:Int)))),(10,.c (.v (.int .i64 (s.i:Int)))),(11,.c (.v (.int .i64 s.j)))]) (fun _=>[]) (fun s=>[urowF (some ⟨g0,0,none⟩) s.ys c])
   (fun s=>PLt l s.ys a b s.i s.j x/\i0<=s.i) (fun s=>b - s.i) ⟨swp l a p,i0,(b:Int) - 1⟩ ⟨hv0,Nat.le_refl _⟩ (Ent.same ⟨rfl,rfl,rfl,rfl,trivial⟩ rfl) g ?_
  rintro ⟨ys,i,j⟩ ⟨hv,hi0⟩
  simp only at hv hi0
  have hyl:ys.length=N:=by rw [hv.sg.len,hN]
  have hvj:=hv.lj
  have hvi:=hv.li
  have hij:=hv.ij
  refine z_af g z_dB (by kernel_rfl) [] [urowF (some ⟨g0,0,none⟩) ys c] Sub.refl ?_
  refine BIf.dec (fun hle=>?_) (fun hle=>?_)
  ·have hle:(i:Int)<=j:=hle
   refine ⟨⟨g0,0,none⟩,i,rfl,rfl,by omega,.int .u64 (at0 ys i),fun β w' hs=>ucell hyl (by omega) hs,?_⟩
   refine ⟨⟨g0,0,none⟩,a,rfl,rfl,by omega,.int .u64 (at0 ys a),fun β w' hs=>ucell hyl (by omega) hs,?_⟩
   rw [hv.px]
   obtain ⟨bb,hbb⟩: ∃bb,decide (at0 ys i<x)=bb:=⟨_,rfl⟩
   refine z_ah (v:= .bool bb) (fun β w' hs=>by rw [<-hbb];exact z_el w' _ _) ?_
   refine ⟨Sub.refl,?_⟩
   cases bb with
   | true=>
    have hlx:at0 ys i<x:=of_decide_eq_true hbb
    refine ⟨((i+1:Nat):Int),by rw [wrap_i64 (by first | omega | (dsimp only;omega)) (by first | omega | (dsimp only;omega))];rfl,?_⟩
    exact ⟨⟨ys,i+1,j⟩,⟨⟨hv.sg,hv.px,by show a+1<=i+1;omega,hv.lj,by show ((i+1:Nat):Int)<=j+1;omega,fun q h1 h2=>by
     have h2:q<i+1:=h2
     by_cases e:q=i
     ·rw [e];exact hlx
     ·exact hv.lo q h1 (by omega),hv.hi⟩,by show i0<=i+1;omega⟩,by show b - (i+1)<b - i;omega,Ent.same ⟨rfl,rfl,rfl,rfl,trivial⟩ rfl⟩
   | false=>
    exact EntX.of ⟨ys,i,j⟩ ⟨hv,hi0,fun _=>of_decide_eq_false hbb⟩ (Ent.same ⟨rfl,rfl,rfl,rfl,trivial⟩ rfl)
  ·have hle: ¬(i:Int)<=j:=hle
   refine ⟨Sub.refl,?_⟩
   exact EntX.of ⟨ys,i,j⟩ ⟨hv,hi0,fun h=>absurd h hle⟩ (Ent.same ⟨rfl,rfl,rfl,rfl,trivial⟩ rfl)
 rintro ⟨ys1,i1,j1⟩ ⟨hv1,hi1,hg1⟩
 simp only at hv1 hi1 hg1
 refine z_ae g ?_
 refine z_gH (κ:=PtS2) 2 (fun s=>PLt l s.ys a b s.i s.j x/\i0<=s.i/\((s.i:Int)<=s.j-> ¬at0 s.ys s.i<x)/\((s.i:Int)<=s.j->at0 s.ys s.j.toNat<x)) 0 (fun s=>[(0,.c (.v (.slice (some ⟨g0,0,none⟩) N c))),(1,.c (.v (.int .i64 (a:Int)))),(10,.c (.v (.int .i64 (s.i:Int)))),(11,.c (.v (.int .i64 s.j)))]) (fun _=>[]) (fun s=>[urowF (some ⟨g0,0,none⟩) s.ys c]) ?_ ?_
 rotate_left
 ·refine z_ag (ι:=PtS2) 0 (fun s=>[(0,.c (.v (.slice (some ⟨g0,0,none⟩) N c))),(1,.c (.v (.int .i64 (a:Int)))),(10,.c (.v (.int .i64 (s.i:Int)))),(11,.c (.v (.int .i64 s.j)))]) (fun _=>[]) (fun s=>[urowF (some ⟨g0,0,none⟩) s.ys c])
   (fun s=>PLt l s.ys a b s.i s.j x/\i0<=s.i/\((s.i:Int)<=s.j-> ¬at0 s.ys s.i<x)) (fun s=>(s.j+1).toNat) ⟨ys1,i1,j1⟩ ⟨hv1,hi1,hg1⟩ (Ent.same ⟨rfl,rfl,rfl,rfl,trivial⟩ rfl) g ?_
  rintro ⟨ys,i,j⟩ ⟨hv,hi0,hgi⟩
  simp only at hv hi0 hgi
  have hyl:ys.length=N:=by rw [hv.sg.len,hN]
  have hvj:=hv.lj
  have hvi:=hv.li
  have hij:=hv.ij
  refine z_af g z_dy (by kernel_rfl) [] [urowF (some ⟨g0,0,none⟩) ys c] Sub.refl ?_
  refine BIf.dec (fun hle=>?_) (fun hle=>?_)
  ·have hle:(i:Int)<=j:=hle
   obtain ⟨k,rfl⟩: ∃k:Nat,j=(k:Int):=Int.eq_ofNat_of_zero_le (by omega)
   refine ⟨⟨g0,0,none⟩,k,rfl,rfl,by omega,.int .u64 (at0 ys k),fun β w' hs=>ucell hyl (by omega) hs,?_⟩
   refine ⟨⟨g0,0,none⟩,a,rfl,rfl,by omega,.int .u64 (at0 ys a),fun β w' hs=>ucell hyl (by omega) hs,?_⟩
   rw [hv.px]
   obtain ⟨bb,hbb⟩: ∃bb,decide (at0 ys k<x)=bb:=⟨_,rfl⟩
   refine z_ah (v:= .bool bb) (fun β w' hs=>by rw [<-hbb];exact z_el w' _ _) ?_
   refine ⟨Sub.refl,?_⟩
   cases bb with
   | true=>
    exact EntX.of ⟨ys,i,(k:Int)⟩ ⟨hv,hi0,hgi,fun _=>by show at0 ys (k:Int).toNat<x;rw [Int.toNat_natCast];exact of_decide_eq_true hbb⟩ (Ent.same ⟨rfl,rfl,rfl,rfl,trivial⟩ rfl)
   | false=>
    have hgt: ¬at0 ys k<x:=of_decide_eq_false hbb
    refine ⟨(k:Int) - 1,by rw [wrap_i64 (by first | omega | (dsimp only;omega)) (by first | omega | (dsimp only;omega))],?_⟩
    exact ⟨⟨ys,i,(k:Int) - 1⟩,⟨⟨hv.sg,hv.px,hv.li,by show (k:Int) - 1<b;omega,by show (i:Int)<=(k:Int) - 1+1;omega,hv.lo,fun q h1 h2=>by
     have h1:(k:Int) - 1<q:=h1
     by_cases e:q=k
     ·rw [e];exact Int.not_lt.1 hgt
     ·exact hv.hi q (by omega) h2⟩,hi0,fun h=>hgi (by have h:(i:Int)<=(k:Int) - 1:=h;omega)⟩,by show ((k:Int) - 1+1).toNat<((k:Int)+1).toNat;omega,Ent.same ⟨rfl,rfl,rfl,rfl,trivial⟩ rfl⟩
  ·have hle: ¬(i:Int)<=j:=hle
   refine ⟨Sub.refl,?_⟩
   exact EntX.of ⟨ys,i,j⟩ ⟨hv,hi0,hgi,fun h=>absurd h hle⟩ (Ent.same ⟨rfl,rfl,rfl,rfl,trivial⟩ rfl)
 rintro ⟨ys,i,j⟩ ⟨hv,hi0,hgi,hgj⟩
 simp only at hv hi0 hgi hgj
 have hyl:ys.length=N:=by rw [hv.sg.len,hN]
 have hvj:=hv.lj
 have hvi:=hv.li
 have hij:=hv.ij
 refine z_ae g ?_
 refine BIf.dec (fun hgt=>?_) (fun hgt=>?_)
 ·skip
  have hgt:j<i:=hgt
  obtain ⟨j,rfl⟩: ∃k:Nat,j=(k:Int):=Int.eq_ofNat_of_zero_le (by omega)
  obtain ⟨f1,f2,f3,f4,f5,f6⟩:=z_vp hv (by omega) (by omega) (by omega)
  have hS: ∀ {n:Nat} {H:List Bk} {F:List Fact},Sub (z_au w (Un [urowF (some ⟨g0,0,none⟩) l c])) n H F [] []:=fun {n H F}=>Sub.of (List.nil_sublist _) (List.nil_sublist _)
  refine z_af g z_dA (by kernel_rfl) [] [] hS ?_
  refine ⟨⟨g0,0,none⟩,a,rfl,rfl,by omega,?_⟩
  refine ⟨⟨g0,0,none⟩,j,rfl,rfl,by omega,?_⟩
  refine ⟨?_,?_⟩
  ·refine ⟨.int .u64 (at0 ys (a)),fun β w' hs=>ucell hyl (by omega) hs,?_⟩
   refine ⟨hS,?_⟩
   refine ⟨.int .u64 (at0 ys (j)),fun β w' hs=>ucell hyl (by omega) hs,?_⟩
   refine ⟨hS,?_⟩
   refine ⟨⟨g0,0,none⟩,j,rfl,rfl,by omega,?_⟩
   refine ⟨_,fun β w' hs=>Sat.rowSet hs (j:=0) (us:=[.int .u64 (at0 ys (a))]) rfl (by show (j)*1+1<=ys.length*1;omega) (fun u hu=>by obtain rfl:=List.mem_singleton.1 hu;rfl),?_⟩
   refine ⟨hS,?_⟩
   refine ⟨⟨g0,0,none⟩,a,rfl,rfl,by omega,?_⟩
   refine ⟨_,fun β w' hs=>Sat.rowSet hs (j:=0) (us:=[.int .u64 (at0 ys (j))]) rfl (by show (a)*1+1<=ys.length*1;omega) (fun u hu=>by obtain rfl:=List.mem_singleton.1 hu;rfl),?_⟩
   refine ⟨hS,?_⟩
   exact fun β w' hs=>(hs.swp.keepB (List.nil_sublist _)).fin [0] ⟨swp ys j a,j,true,rfl,f1,f2,f3,f4,f5,f6,rfl⟩ rfl rfl rfl ⟨rfl,trivial⟩
  ·refine ⟨.int .u64 (at0 ys (j)),fun β w' hs=>ucell hyl (by omega) hs,?_⟩
   refine ⟨hS,?_⟩
   refine ⟨.int .u64 (at0 ys (a)),fun β w' hs=>ucell hyl (by omega) hs,?_⟩
   refine ⟨hS,?_⟩
   refine ⟨⟨g0,0,none⟩,j,rfl,rfl,by omega,?_⟩
   refine ⟨_,fun β w' hs=>Sat.rowSet hs (j:=0) (us:=[.int .u64 (at0 ys (a))]) rfl (by show (j)*1+1<=ys.length*1;omega) (fun u hu=>by obtain rfl:=List.mem_singleton.1 hu;rfl),?_⟩
   refine ⟨hS,?_⟩
   refine ⟨⟨g0,0,none⟩,a,rfl,rfl,by omega,?_⟩
   refine ⟨_,fun β w' hs=>Sat.rowSet hs (j:=0) (us:=[.int .u64 (at0 ys (j))]) rfl (by show (a)*1+1<=ys.length*1;omega) (fun u hu=>by obtain rfl:=List.mem_singleton.1 hu;rfl),?_⟩
   refine ⟨hS,?_⟩
   exact fun β w' hs=>(hs.swp.keepB (List.nil_sublist _)).fin [0] ⟨swp ys j a,j,true,rfl,f1,f2,f3,f4,f5,f6,rfl⟩ rfl rfl rfl ⟨rfl,trivial⟩
 ·skip
  have hle:(i:Int)<=j:=by have h: ¬j<(i:Int):=hgt;omega
  obtain ⟨j,rfl⟩: ∃k:Nat,j=(k:Int):=Int.eq_ofNat_of_zero_le (by omega)
  have g1:=hgi hle
  have g2:=hgj hle
  rw [Int.toNat_natCast] at g2
  have hne:i≠j:=fun e=>by rw [e] at g1;exact g1 g2
  refine z_aM (ι:=Unit) g (fun _=>True) 0 (fun _=>[(0,.c (.v (.slice (some ⟨g0,0,none⟩) N c))),(1,.c (.v (.int .i64 (a:Int)))),(10,.c (.v (.int .i64 (i:Int)))),(11,.c (.v (.int .i64 (j:Int))))]) (fun _=>[]) (fun _=>[urowF (some ⟨g0,0,none⟩) (swp ys i j) c]) ?_ ?_
  rotate_left
  ·skip
   have hS: ∀ {n:Nat} {H:List Bk} {F:List Fact},Sub (z_au w (Un [urowF (some ⟨g0,0,none⟩) l c])) n H F [] []:=fun {n H F}=>Sub.of (List.nil_sublist _) (List.nil_sublist _)
   refine z_af g z_dm (by kernel_rfl) [] [] hS ?_
   refine ⟨⟨g0,0,none⟩,j,rfl,rfl,by omega,?_⟩
   refine ⟨⟨g0,0,none⟩,i,rfl,rfl,by omega,?_⟩
   refine ⟨?_,?_⟩
   ·refine ⟨.int .u64 (at0 ys (j)),fun β w' hs=>ucell hyl (by omega) hs,?_⟩
    refine ⟨hS,?_⟩
    refine ⟨.int .u64 (at0 ys (i)),fun β w' hs=>ucell hyl (by omega) hs,?_⟩
    refine ⟨hS,?_⟩
    refine ⟨⟨g0,0,none⟩,i,rfl,rfl,by omega,?_⟩
    refine ⟨_,fun β w' hs=>Sat.rowSet hs (j:=0) (us:=[.int .u64 (at0 ys (j))]) rfl (by show (i)*1+1<=ys.length*1;omega) (fun u hu=>by obtain rfl:=List.mem_singleton.1 hu;rfl),?_⟩
    refine ⟨hS,?_⟩
    refine ⟨⟨g0,0,none⟩,j,rfl,rfl,by omega,?_⟩
    refine ⟨_,fun β w' hs=>Sat.rowSet hs (j:=0) (us:=[.int .u64 (at0 ys (i))]) rfl (by show (j)*1+1<=ys.length*1;omega) (fun u hu=>by obtain rfl:=List.mem_singleton.1 hu;rfl),?_⟩
    refine ⟨hS,?_⟩
    exact EntX.of () trivial (Ent.mk' ⟨rfl,rfl,rfl,rfl,trivial⟩ rfl (fun β w' hs=>hs.swp))
   ·refine ⟨.int .u64 (at0 ys (i)),fun β w' hs=>ucell hyl (by omega) hs,?_⟩
    refine ⟨hS,?_⟩
    refine ⟨.int .u64 (at0 ys (j)),fun β w' hs=>ucell hyl (by omega) hs,?_⟩
    refine ⟨hS,?_⟩
    refine ⟨⟨g0,0,none⟩,i,rfl,rfl,by omega,?_⟩
    refine ⟨_,fun β w' hs=>Sat.rowSet hs (j:=0) (us:=[.int .u64 (at0 ys (j))]) rfl (by show (i)*1+1<=ys.length*1;omega) (fun u hu=>by obtain rfl:=List.mem_singleton.1 hu;rfl),?_⟩
    refine ⟨hS,?_⟩
    refine ⟨⟨g0,0,none⟩,j,rfl,rfl,by omega,?_⟩
    refine ⟨_,fun β w' hs=>Sat.rowSet hs (j:=0) (us:=[.int .u64 (at0 ys (i))]) rfl (by show (j)*1+1<=ys.length*1;omega) (fun u hu=>by obtain rfl:=List.mem_singleton.1 hu;rfl),?_⟩
    refine ⟨hS,?_⟩
    exact EntX.of () trivial (Ent.mk' ⟨rfl,rfl,rfl,rfl,trivial⟩ rfl (fun β w' hs=>hs.swp))
  rintro ⟨⟩ -
  have hv3:=z_st hv (by omega) (by omega) (by omega) g1 g2
  clear hv hgi hgj g1 g2
  refine z_ae g ?_
  refine ⟨((i+1:Nat):Int),by rw [wrap_i64 (by first | omega | (dsimp only;omega)) (by first | omega | (dsimp only;omega))];rfl,?_⟩
  refine z_ae g ?_
  refine ⟨(j:Int) - 1,by rw [wrap_i64 (by first | omega | (dsimp only;omega)) (by first | omega | (dsimp only;omega))],?_⟩
  refine z_ae g ?_
  refine z_ag (ι:=PtS2) 0 (fun s=>[(0,.c (.v (.slice (some ⟨g0,0,none⟩) N c))),(1,.c (.v (.int .i64 (a:Int)))),(10,.c (.v (.int .i64 (s.i:Int)))),(11,.c (.v (.int .i64 s.j)))]) (fun _=>[]) (fun s=>[urowF (some ⟨g0,0,none⟩) s.ys c])
   (fun s=>PLt l s.ys a b s.i s.j x) (fun s=>b - s.i) ⟨swp ys i j,i+1,(j:Int) - 1⟩ hv3 (Ent.same ⟨rfl,rfl,rfl,rfl,trivial⟩ rfl) g ?_
  clear hv3 hv0 hyl hvj hvi hij hi0 hle hne hv1 hi1 hg1
  rintro ⟨ys0,i0,j0⟩ hv0
  simp only at hv0
  refine z_gH (κ:=PtS2) 6 (fun s=>PLt l s.ys a b s.i s.j x/\i0<=s.i/\((s.i:Int)<=s.j-> ¬at0 s.ys s.i<x)) 0 (fun s=>[(0,.c (.v (.slice (some ⟨g0,0,none⟩) N c))),(1,.c (.v (.int .i64 (a:Int)))),(10,.c (.v (.int .i64 (s.i:Int)))),(11,.c (.v (.int .i64 s.j)))]) (fun _=>[]) (fun s=>[urowF (some ⟨g0,0,none⟩) s.ys c]) ?_ ?_
  rotate_left
  ·refine z_ag (ι:=PtS2) 0 (fun s=>[(0,.c (.v (.slice (some ⟨g0,0,none⟩) N c))),(1,.c (.v (.int .i64 (a:Int)))),(10,.c (.v (.int .i64 (s.i:Int)))),(11,.c (.v (.int .i64 s.j)))]) (fun _=>[]) (fun s=>[urowF (some ⟨g0,0,none⟩) s.ys c])
    (fun s=>PLt l s.ys a b s.i s.j x/\i0<=s.i) (fun s=>b - s.i) ⟨ys0,i0,j0⟩ ⟨hv0,Nat.le_refl _⟩ (Ent.same ⟨rfl,rfl,rfl,rfl,trivial⟩ rfl) g ?_
   rintro ⟨ys,i,j⟩ ⟨hv,hi0⟩
   simp only at hv hi0
   have hyl:ys.length=N:=by rw [hv.sg.len,hN]
   have hvj:=hv.lj
   have hvi:=hv.li
   have hij:=hv.ij
   refine z_af g z_do (by kernel_rfl) [] [urowF (some ⟨g0,0,none⟩) ys c] Sub.refl ?_
   refine BIf.dec (fun hle=>?_) (fun hle=>?_)
   ·have hle:(i:Int)<=j:=hle
    refine ⟨⟨g0,0,none⟩,i,rfl,rfl,by omega,.int .u64 (at0 ys i),fun β w' hs=>ucell hyl (by omega) hs,?_⟩
    refine ⟨⟨g0,0,none⟩,a,rfl,rfl,by omega,.int .u64 (at0 ys a),fun β w' hs=>ucell hyl (by omega) hs,?_⟩
    rw [hv.px]
    obtain ⟨bb,hbb⟩: ∃bb,decide (at0 ys i<x)=bb:=⟨_,rfl⟩
    refine z_ah (v:= .bool bb) (fun β w' hs=>by rw [<-hbb];exact z_el w' _ _) ?_
    refine ⟨Sub.refl,?_⟩
    cases bb with
    | true=>
     have hlx:at0 ys i<x:=of_decide_eq_true hbb
     refine ⟨((i+1:Nat):Int),by rw [wrap_i64 (by first | omega | (dsimp only;omega)) (by first | omega | (dsimp only;omega))];rfl,?_⟩
     exact ⟨⟨ys,i+1,j⟩,⟨⟨hv.sg,hv.px,by show a+1<=i+1;omega,hv.lj,by show ((i+1:Nat):Int)<=j+1;omega,fun q h1 h2=>by
      have h2:q<i+1:=h2
      by_cases e:q=i
      ·rw [e];exact hlx
      ·exact hv.lo q h1 (by omega),hv.hi⟩,by show i0<=i+1;omega⟩,by show b - (i+1)<b - i;omega,Ent.same ⟨rfl,rfl,rfl,rfl,trivial⟩ rfl⟩
    | false=>
     exact EntX.of ⟨ys,i,j⟩ ⟨hv,hi0,fun _=>of_decide_eq_false hbb⟩ (Ent.same ⟨rfl,rfl,rfl,rfl,trivial⟩ rfl)
   ·have hle: ¬(i:Int)<=j:=hle
    refine ⟨Sub.refl,?_⟩
    exact EntX.of ⟨ys,i,j⟩ ⟨hv,hi0,fun h=>absurd h hle⟩ (Ent.same ⟨rfl,rfl,rfl,rfl,trivial⟩ rfl)
  rintro ⟨ys1,i1,j1⟩ ⟨hv1,hi1,hg1⟩
  simp only at hv1 hi1 hg1
  refine z_gH (κ:=PtS2) 8 (fun s=>PLt l s.ys a b s.i s.j x/\i0<=s.i/\((s.i:Int)<=s.j-> ¬at0 s.ys s.i<x)/\((s.i:Int)<=s.j->at0 s.ys s.j.toNat<x)) 0 (fun s=>[(0,.c (.v (.slice (some ⟨g0,0,none⟩) N c))),(1,.c (.v (.int .i64 (a:Int)))),(10,.c (.v (.int .i64 (s.i:Int)))),(11,.c (.v (.int .i64 s.j)))]) (fun _=>[]) (fun s=>[urowF (some ⟨g0,0,none⟩) s.ys c]) ?_ ?_
  rotate_left
  ·refine z_ag (ι:=PtS2) 0 (fun s=>[(0,.c (.v (.slice (some ⟨g0,0,none⟩) N c))),(1,.c (.v (.int .i64 (a:Int)))),(10,.c (.v (.int .i64 (s.i:Int)))),(11,.c (.v (.int .i64 s.j)))]) (fun _=>[]) (fun s=>[urowF (some ⟨g0,0,none⟩) s.ys c])
    (fun s=>PLt l s.ys a b s.i s.j x/\i0<=s.i/\((s.i:Int)<=s.j-> ¬at0 s.ys s.i<x)) (fun s=>(s.j+1).toNat) ⟨ys1,i1,j1⟩ ⟨hv1,hi1,hg1⟩ (Ent.same ⟨rfl,rfl,rfl,rfl,trivial⟩ rfl) g ?_
   rintro ⟨ys,i,j⟩ ⟨hv,hi0,hgi⟩
   simp only at hv hi0 hgi
   have hyl:ys.length=N:=by rw [hv.sg.len,hN]
   have hvj:=hv.lj
   have hvi:=hv.li
   have hij:=hv.ij
   refine z_af g z_db (by kernel_rfl) [] [urowF (some ⟨g0,0,none⟩) ys c] Sub.refl ?_
   refine BIf.dec (fun hle=>?_) (fun hle=>?_)
   ·have hle:(i:Int)<=j:=hle
    obtain ⟨k,rfl⟩: ∃k:Nat,j=(k:Int):=Int.eq_ofNat_of_zero_le (by omega)
    refine ⟨⟨g0,0,none⟩,k,rfl,rfl,by omega,.int .u64 (at0 ys k),fun β w' hs=>ucell hyl (by omega) hs,?_⟩
    refine ⟨⟨g0,0,none⟩,a,rfl,rfl,by omega,.int .u64 (at0 ys a),fun β w' hs=>ucell hyl (by omega) hs,?_⟩
    rw [hv.px]
    obtain ⟨bb,hbb⟩: ∃bb,decide (at0 ys k<x)=bb:=⟨_,rfl⟩
    refine z_ah (v:= .bool bb) (fun β w' hs=>by rw [<-hbb];exact z_el w' _ _) ?_
    refine ⟨Sub.refl,?_⟩
    cases bb with
    | true=>
     exact EntX.of ⟨ys,i,(k:Int)⟩ ⟨hv,hi0,hgi,fun _=>by show at0 ys (k:Int).toNat<x;rw [Int.toNat_natCast];exact of_decide_eq_true hbb⟩ (Ent.same ⟨rfl,rfl,rfl,rfl,trivial⟩ rfl)
    | false=>
     have hgt: ¬at0 ys k<x:=of_decide_eq_false hbb
     refine ⟨(k:Int) - 1,by rw [wrap_i64 (by first | omega | (dsimp only;omega)) (by first | omega | (dsimp only;omega))],?_⟩
     exact ⟨⟨ys,i,(k:Int) - 1⟩,⟨⟨hv.sg,hv.px,hv.li,by show (k:Int) - 1<b;omega,by show (i:Int)<=(k:Int) - 1+1;omega,hv.lo,fun q h1 h2=>by
      have h1:(k:Int) - 1<q:=h1
      by_cases e:q=k
      ·rw [e];exact Int.not_lt.1 hgt
      ·exact hv.hi q (by omega) h2⟩,hi0,fun h=>hgi (by have h:(i:Int)<=(k:Int) - 1:=h;omega)⟩,by show ((k:Int) - 1+1).toNat<((k:Int)+1).toNat;omega,Ent.same ⟨rfl,rfl,rfl,rfl,trivial⟩ rfl⟩
   ·have hle: ¬(i:Int)<=j:=hle
    refine ⟨Sub.refl,?_⟩
    exact EntX.of ⟨ys,i,j⟩ ⟨hv,hi0,hgi,fun h=>absurd h hle⟩ (Ent.same ⟨rfl,rfl,rfl,rfl,trivial⟩ rfl)
  rintro ⟨ys,i,j⟩ ⟨hv,hi0,hgi,hgj⟩
  simp only at hv hi0 hgi hgj
  have hyl:ys.length=N:=by rw [hv.sg.len,hN]
  have hvj:=hv.lj
  have hvi:=hv.li
  have hij:=hv.ij
  refine BIf.dec (fun hgt=>?_) (fun hgt=>?_)
  ·skip
   have hgt:j<i:=hgt
   obtain ⟨j,rfl⟩: ∃k:Nat,j=(k:Int):=Int.eq_ofNat_of_zero_le (by omega)
   obtain ⟨f1,f2,f3,f4,f5,f6⟩:=z_vp hv (by omega) (by omega) (by omega)
   refine z_ae g ?_
   have hS: ∀ {n:Nat} {H:List Bk} {F:List Fact},Sub (z_au w (Un [urowF (some ⟨g0,0,none⟩) l c])) n H F [] []:=fun {n H F}=>Sub.of (List.nil_sublist _) (List.nil_sublist _)
   refine z_af g z_dk (by kernel_rfl) [] [] hS ?_
   refine ⟨⟨g0,0,none⟩,a,rfl,rfl,by omega,?_⟩
   refine ⟨⟨g0,0,none⟩,j,rfl,rfl,by omega,?_⟩
   refine ⟨?_,?_⟩
   ·refine ⟨.int .u64 (at0 ys (a)),fun β w' hs=>ucell hyl (by omega) hs,?_⟩
    refine ⟨hS,?_⟩
    refine ⟨.int .u64 (at0 ys (j)),fun β w' hs=>ucell hyl (by omega) hs,?_⟩
    refine ⟨hS,?_⟩
    refine ⟨⟨g0,0,none⟩,j,rfl,rfl,by omega,?_⟩
    refine ⟨_,fun β w' hs=>Sat.rowSet hs (j:=0) (us:=[.int .u64 (at0 ys (a))]) rfl (by show (j)*1+1<=ys.length*1;omega) (fun u hu=>by obtain rfl:=List.mem_singleton.1 hu;rfl),?_⟩
    refine ⟨hS,?_⟩
    refine ⟨⟨g0,0,none⟩,a,rfl,rfl,by omega,?_⟩
    refine ⟨_,fun β w' hs=>Sat.rowSet hs (j:=0) (us:=[.int .u64 (at0 ys (j))]) rfl (by show (a)*1+1<=ys.length*1;omega) (fun u hu=>by obtain rfl:=List.mem_singleton.1 hu;rfl),?_⟩
    refine ⟨hS,?_⟩
    refine z_aQ g ?_
    exact fun β w' hs=>(hs.swp.keepB (List.nil_sublist _)).fin [0] ⟨swp ys j a,j,false,rfl,f1,f2,f3,f4,f5,f6,rfl⟩ rfl rfl rfl ⟨rfl,trivial⟩
   ·refine ⟨.int .u64 (at0 ys (j)),fun β w' hs=>ucell hyl (by omega) hs,?_⟩
    refine ⟨hS,?_⟩
    refine ⟨.int .u64 (at0 ys (a)),fun β w' hs=>ucell hyl (by omega) hs,?_⟩
    refine ⟨hS,?_⟩
    refine ⟨⟨g0,0,none⟩,j,rfl,rfl,by omega,?_⟩
    refine ⟨_,fun β w' hs=>Sat.rowSet hs (j:=0) (us:=[.int .u64 (at0 ys (a))]) rfl (by show (j)*1+1<=ys.length*1;omega) (fun u hu=>by obtain rfl:=List.mem_singleton.1 hu;rfl),?_⟩
    refine ⟨hS,?_⟩
    refine ⟨⟨g0,0,none⟩,a,rfl,rfl,by omega,?_⟩
    refine ⟨_,fun β w' hs=>Sat.rowSet hs (j:=0) (us:=[.int .u64 (at0 ys (j))]) rfl (by show (a)*1+1<=ys.length*1;omega) (fun u hu=>by obtain rfl:=List.mem_singleton.1 hu;rfl),?_⟩
    refine ⟨hS,?_⟩
    refine z_aQ g ?_
    exact fun β w' hs=>(hs.swp.keepB (List.nil_sublist _)).fin [0] ⟨swp ys j a,j,false,rfl,f1,f2,f3,f4,f5,f6,rfl⟩ rfl rfl rfl ⟨rfl,trivial⟩
  ·skip
   have hle:(i:Int)<=j:=by have h: ¬j<(i:Int):=hgt;omega
   obtain ⟨j,rfl⟩: ∃k:Nat,j=(k:Int):=Int.eq_ofNat_of_zero_le (by omega)
   have g1:=hgi hle
   have g2:=hgj hle
   rw [Int.toNat_natCast] at g2
   have hne:i≠j:=fun e=>by rw [e] at g1;exact g1 g2
   have hS: ∀ {n:Nat} {H:List Bk} {F:List Fact},Sub (z_au w (Un [urowF (some ⟨g0,0,none⟩) l c])) n H F [] []:=fun {n H F}=>Sub.of (List.nil_sublist _) (List.nil_sublist _)
   refine z_af g z_dp (by kernel_rfl) [] [] hS ?_
   refine ⟨⟨g0,0,none⟩,j,rfl,rfl,by omega,?_⟩
   refine ⟨⟨g0,0,none⟩,i,rfl,rfl,by omega,?_⟩
   refine ⟨?_,?_⟩
   ·refine ⟨.int .u64 (at0 ys (j)),fun β w' hs=>ucell hyl (by omega) hs,?_⟩
    refine ⟨hS,?_⟩
    refine ⟨.int .u64 (at0 ys (i)),fun β w' hs=>ucell hyl (by omega) hs,?_⟩
    refine ⟨hS,?_⟩
    refine ⟨⟨g0,0,none⟩,i,rfl,rfl,by omega,?_⟩
    refine ⟨_,fun β w' hs=>Sat.rowSet hs (j:=0) (us:=[.int .u64 (at0 ys (j))]) rfl (by show (i)*1+1<=ys.length*1;omega) (fun u hu=>by obtain rfl:=List.mem_singleton.1 hu;rfl),?_⟩
    refine ⟨hS,?_⟩
    refine ⟨⟨g0,0,none⟩,j,rfl,rfl,by omega,?_⟩
    refine ⟨_,fun β w' hs=>Sat.rowSet hs (j:=0) (us:=[.int .u64 (at0 ys (i))]) rfl (by show (j)*1+1<=ys.length*1;omega) (fun u hu=>by obtain rfl:=List.mem_singleton.1 hu;rfl),?_⟩
    refine ⟨hS,?_⟩
    refine ⟨((i+1:Nat):Int),by rw [wrap_i64 (by first | omega | (dsimp only;omega)) (by first | omega | (dsimp only;omega))];rfl,?_⟩
    refine ⟨(j:Int) - 1,by rw [wrap_i64 (by first | omega | (dsimp only;omega)) (by first | omega | (dsimp only;omega))],?_⟩
    exact ⟨⟨swp ys i j,i+1,(j:Int) - 1⟩,z_st hv (by omega) (by omega) (by omega) g1 g2,by show b - (i+1)<b - i0;omega,Ent.mk' ⟨rfl,rfl,rfl,rfl,trivial⟩ rfl (fun β w' hs=>hs.swp)⟩
   ·refine ⟨.int .u64 (at0 ys (i)),fun β w' hs=>ucell hyl (by omega) hs,?_⟩
    refine ⟨hS,?_⟩
    refine ⟨.int .u64 (at0 ys (j)),fun β w' hs=>ucell hyl (by omega) hs,?_⟩
    refine ⟨hS,?_⟩
    refine ⟨⟨g0,0,none⟩,i,rfl,rfl,by omega,?_⟩
    refine ⟨_,fun β w' hs=>Sat.rowSet hs (j:=0) (us:=[.int .u64 (at0 ys (j))]) rfl (by show (i)*1+1<=ys.length*1;omega) (fun u hu=>by obtain rfl:=List.mem_singleton.1 hu;rfl),?_⟩
    refine ⟨hS,?_⟩
    refine ⟨⟨g0,0,none⟩,j,rfl,rfl,by omega,?_⟩
    refine ⟨_,fun β w' hs=>Sat.rowSet hs (j:=0) (us:=[.int .u64 (at0 ys (i))]) rfl (by show (j)*1+1<=ys.length*1;omega) (fun u hu=>by obtain rfl:=List.mem_singleton.1 hu;rfl),?_⟩
    refine ⟨hS,?_⟩
    refine ⟨((i+1:Nat):Int),by rw [wrap_i64 (by first | omega | (dsimp only;omega)) (by first | omega | (dsimp only;omega))];rfl,?_⟩
    refine ⟨(j:Int) - 1,by rw [wrap_i64 (by first | omega | (dsimp only;omega)) (by first | omega | (dsimp only;omega))],?_⟩
    exact ⟨⟨swp ys i j,i+1,(j:Int) - 1⟩,z_st hv (by omega) (by omega) (by omega) g1 g2,by show b - (i+1)<b - i0;omega,Ent.mk' ⟨rfl,rfl,rfl,rfl,trivial⟩ rfl (fun β w' hs=>hs.swp)⟩
theorem Rise.ofNext {l:List Int} {a b:Nat} (h: ∀q,a<q->q<b->at0 l (q - 1)<=at0 l q):Rise l a b:=by
 intro p q h1 h2 h3
 obtain ⟨d,rfl⟩: ∃d,q=p+1+d:=⟨q - (p+1),by omega⟩
 induction d with
 | zero=>exact h (p+1) (by omega) h3
 | succ d ih=>exact Int.le_trans (ih (by omega) (by omega)) (h (p+1+(d+1)) (by omega) h3)
theorem z_za (w:World) (A:Option Addr) (l:List Int) (c a b:Nat) (hl:l.length<=1000000) (hb:b<=l.length) (hab:a<b) (h50:b - a<50) (hm:Mem w [urowF A l c]):
  Con Tryz.prog z_a5 #[.slice A l.length c,.int .i64 (a:Int),.int .i64 (b:Int)] w [urowF A l c] fun v Fs=> ∃f:Bool,v= .bool f/\(f=true->Rise l a b)/\Fs=[urowF A l c]:=by
 have g:=z_bC w (Un [urowF A l c])
 have hA:=z_dY (hm.fact _ List.mem_cons_self:(urowF A l c).p w)
 obtain ⟨g0,rfl⟩:=hA (by omega)
 refine z_dN (cx:=z_a2 w (Un [urowF (some ⟨g0,0,none⟩) l c])) g z_b2 [.c (.v (.slice (some ⟨g0,0,none⟩) l.length c)),.c (.v (.int .i64 (a:Int))),.c (.v (.int .i64 (b:Int)))] [] hm ?_
 obtain ⟨N,hN⟩: ∃N,l.length=N:=⟨_,rfl⟩
 rw [hN] at hl hb ⊢
 refine ⟨((a+1:Nat):Int),by rw [wrap_i64 (by first | omega | (dsimp only;omega)) (by first | omega | (dsimp only;omega))];rfl,?_⟩
 refine z_ag (ι:=Unit) 0 (fun _=>[(0,.c (.v (.slice (some ⟨g0,0,none⟩) N c))),(1,.c (.v (.int .i64 (a:Int)))),(2,.c (.v (.int .i64 (b:Int)))),(7,.c (.v (.int .i64 ((a+1:Nat):Int)))),(8,.c (.v (.int .i64 0)))]) (fun _=>[]) (fun _=>[urowF (some ⟨g0,0,none⟩) l c])
  (fun _=>True) (fun _=>0) () trivial (Ent.mk' ⟨rfl,rfl,rfl,rfl,rfl,trivial⟩ rfl (fun β w' hs=>hs)) g ?_
 rintro ⟨⟩ -
 refine z_ag (ι:=Nat) 0 (fun i=>[(0,.c (.v (.slice (some ⟨g0,0,none⟩) N c))),(1,.c (.v (.int .i64 (a:Int)))),(2,.c (.v (.int .i64 (b:Int)))),(7,.c (.v (.int .i64 (i:Int)))),(8,.c (.v (.int .i64 0)))]) (fun _=>[]) (fun _=>[urowF (some ⟨g0,0,none⟩) l c])
  (fun i=>a+1<=i/\i<=b/\ ∀q,a<q->q<i->at0 l (q - 1)<=at0 l q) (fun i=>b - i) (a+1) ⟨Nat.le_refl _,hab,fun q h1 h2=>by omega⟩ (Ent.same ⟨rfl,rfl,rfl,rfl,rfl,trivial⟩ rfl) g ?_
 rintro i ⟨hi,hib,hr⟩
 refine z_af g z_bH (by kernel_rfl) [] [urowF (some ⟨g0,0,none⟩) l c] Sub.refl ?_
 refine BIf.dec (fun hlt=>?_) (fun hlt=>?_)
 ·have hlt:(i:Int)<b:=hlt
  refine ⟨⟨g0,0,none⟩,i,rfl,rfl,by omega,.int .u64 (at0 l i),fun β w' hs=>ucell hN (by omega) hs,?_⟩
  refine ⟨((i - 1:Nat):Int),by rw [wrap_i64 (by omega) (by omega)];omega,?_⟩
  refine ⟨⟨g0,0,none⟩,i - 1,rfl,rfl,by omega,.int .u64 (at0 l (i - 1)),fun β w' hs=>ucell hN (by omega) hs,?_⟩
  obtain ⟨bb,hbb⟩: ∃bb,decide (at0 l i<at0 l (i - 1))=bb:=⟨_,rfl⟩
  refine z_ah (v:= .bool bb) (fun β w' hs=>by rw [<-hbb];exact z_el w' _ _) ?_
  refine ⟨Sub.refl,?_⟩
  cases bb with
  | true=>
   refine BIf.dec (fun h=>absurd (show (i:Int)=(b:Int) from h) (by omega)) (fun _=>?_)
   refine ⟨(((b - a):Nat):Int),by rw [wrap_i64 (by omega) (by omega)];omega,?_⟩
   refine BIf.dec (fun _=>?_) (fun h=>absurd (show ((b - a:Nat):Int)<50 by omega) h)
   exact fun β w' hs=>(hs.keepB (List.nil_sublist _)).fin [0] ⟨false,rfl,fun h=>(nomatch h),rfl⟩ rfl rfl rfl ⟨rfl,trivial⟩
  | false=>
   have hng: ¬at0 l i<at0 l (i - 1):=of_decide_eq_false hbb
   refine ⟨((i+1:Nat):Int),by rw [wrap_i64 (by first | omega | (dsimp only;omega)) (by first | omega | (dsimp only;omega))];rfl,?_⟩
   exact ⟨i+1,⟨by omega,by omega,fun q h1 h2=>by
    by_cases e:q=i
    ·subst e;omega
    ·exact hr q h1 (by omega)⟩,by omega,Ent.same ⟨rfl,rfl,rfl,rfl,rfl,trivial⟩ rfl⟩
 ·have hlt: ¬(i:Int)<b:=hlt
  have hib2:i=b:=by omega
  subst hib2
  refine ⟨Sub.refl,?_⟩
  refine BIf.dec (fun _=>?_) (fun h=>absurd (show (i:Int)=(i:Int) from rfl) h)
  exact fun β w' hs=>(hs.keepB (List.nil_sublist _)).fin [0] ⟨true,rfl,fun _=>Rise.ofNext hr,rfl⟩ rfl rfl rfl ⟨rfl,trivial⟩
end Go.Proofs.YtfomhhkoamapmaaGreatDoor.Sx
namespace Go.Proofs.YtfomhhkoamapmaaGreatDoor.Sx
open Go
def Kid (p c:Nat):Prop:=c=2*p+1\/c=2*p+2
def HeapP (l:List Int) (f lo n:Nat):Prop:= ∀p c,lo<=p->Kid p c->c<n->at0 l (f+c)<=at0 l (f+p)
structure HeapX (l:List Int) (f lo n r:Nat):Prop where
 h1: ∀p c,lo<=p->p≠r->Kid p c->c<n->at0 l (f+c)<=at0 l (f+p)
 h2: ∀p c,lo<=p->Kid p r->Kid r c->c<n->at0 l (f+c)<=at0 l (f+p)
theorem HeapP.start {l:List Int} {f lo n:Nat} (h:HeapP l f (lo+1) n):HeapX l f lo n lo:=
 ⟨fun p c h0 h1 hk hc=>h p c (by omega) hk hc,fun p c h0 h1 _ _=>by unfold Kid at h1;omega⟩
theorem HeapX.done {l:List Int} {f lo n r:Nat} (h:HeapX l f lo n r) (hd: ∀c,Kid r c->c<n->at0 l (f+c)<=at0 l (f+r)):HeapP l f lo n:=fun p c h0 hk hc=>by
 by_cases e:p=r
 ·subst e;exact hd c hk hc
 ·exact h.h1 p c h0 e hk hc
theorem HeapX.step {l:List Int} {f lo n r k:Nat} (h:HeapX l f lo n r) (hlo:lo<=r) (hk:Kid r k) (hkn:k<n) (hn:f+n<=l.length) (hmax: ∀c,Kid r c->c<n->at0 l (f+c)<=at0 l (f+k)) (hlt:at0 l (f+r)<at0 l (f+k)):HeapX (swp l (f+r) (f+k)) f lo n k:=by
 have hrk:r<k:=by unfold Kid at hk;omega
 have e: ∀q,q<n->at0 (swp l (f+r) (f+k)) (f+q)=if q=k then at0 l (f+r) else if q=r then at0 l (f+k) else at0 l (f+q):=fun q hq=>by
  rw [z_bI (by omega) (by omega)]
  by_cases a:q=k
  ·rw [if_pos (by omega),if_pos a]
  ·rw [if_neg (by omega),if_neg a]
   by_cases b:q=r
   ·rw [if_pos (by omega),if_pos b]
   ·rw [if_neg (by omega),if_neg b]
 refine ⟨fun p c h0 hp hc hcn=>?_,fun p c h0 hp hc hcn=>?_⟩
 ·have hpc:p<c:=by unfold Kid at hc;omega
  rw [e c hcn,e p (by omega),if_neg hp]
  by_cases a:p=r
  ·subst a
   rw [if_pos rfl]
   by_cases b:c=k
   ·rw [if_pos b];omega
   ·rw [if_neg b,if_neg (by omega)];exact hmax c hc hcn
  ·rw [if_neg a]
   have hck:c≠k:=fun q=>by subst q;unfold Kid at hc hk;omega
   rw [if_neg hck]
   by_cases b:c=r
   ·subst b
    rw [if_pos rfl]
    exact h.h2 p k h0 hc hk hkn
   ·rw [if_neg b]
    exact h.h1 p c h0 a hc hcn
 ·have hkc:k<c:=by unfold Kid at hc;omega
  have hpr:p=r:=by unfold Kid at hp hk;omega
  subst hpr
  rw [e c hcn,e p (by omega),if_neg (by omega),if_neg (by omega),if_neg (by omega),if_pos rfl]
  exact h.h1 k c (by omega) (by omega) hc hcn
theorem HeapP.top {l:List Int} {f n:Nat} (h:HeapP l f 0 n): ∀c,c<n->at0 l (f+c)<=at0 l f:=by
 intro c
 induction c using Nat.strongRecOn with
 | _ c ih=>
  intro hc
  by_cases e:c=0
  ·subst e;exact Int.le_refl _
  ·have hk:Kid ((c - 1)/2) c:=by unfold Kid;omega
   exact Int.le_trans (h _ c (Nat.zero_le _) hk hc) (ih _ (by omega) (by omega))
structure HpS (l ys:List Int) (a b n:Nat):Prop where
 sg:Seg l ys a b
 hp:HeapP ys a 0 n
 nb:a+n<=b
 rs:Rise ys (a+n) b
 le: ∀p q,a<=p->p<a+n->a+n<=q->q<b->at0 ys p<=at0 ys q
theorem HpS.fin {l ys:List Int} {a b:Nat} (h:HpS l ys a b 0):Rise ys a b:=h.rs
theorem HpS.next {l ys zs:List Int} {a b n:Nat} (h:HpS l ys a b (n+1)) (hb:b<=ys.length) (hs:Seg (swp ys a (a+n)) zs a (a+n)) (hz:HeapP zs a 0 n):HpS l zs a b n:=by
 have hnb:=h.nb
 have hl:=z_lE ys a (a+n)
 have et:at0 zs (a+n)=at0 ys a:=by rw [hs.out _ (Or.inr (Nat.le_refl _)),z_bI (by omega) (by omega),if_pos rfl]
 have eb: ∀q,a+n<q->at0 zs q=at0 ys q:=fun q hq=>by rw [hs.out _ (by omega),z_bI (by omega) (by omega),if_neg (by omega),if_neg (by omega)]
 have hlow: ∀P:Int->Prop,(∀q,a<=q->q<a+(n+1)->P (at0 ys q))-> ∀q,a<=q->q<a+n->P (at0 zs q):=fun P hP=>hs.all (by omega) (by omega) (fun q h1 h2=>by
  rw [z_bI (by omega) (by omega),if_neg (by omega)]
  by_cases e:q=a
  ·rw [if_pos e];exact hP _ (by omega) (by omega)
  ·rw [if_neg e];exact hP _ h1 (by omega))
 refine ⟨(h.sg.trans (Seg.swp hb (Nat.le_refl _) (by omega) (by omega) (by omega))).trans (hs.wide (Nat.le_refl _) (by omega)),hz,by omega,fun p q h1 h2 h3=>?_,fun p q h1 h2 h3 h4=>?_⟩
 ·rw [eb q (by omega)]
  by_cases e:p=a+n
  ·subst e
   rw [et]
   exact h.le a q (Nat.le_refl _) (by omega) (by omega) h3
  ·rw [eb p (by omega)]
   exact h.rs p q (by omega) h2 h3
 ·refine hlow (fun z=>z<=at0 zs q) (fun i hi1 hi2=>?_) p h1 h2
  by_cases e:q=a+n
  ·subst e
   rw [et]
   obtain ⟨c,rfl⟩: ∃c,i=a+c:=⟨i - a,by omega⟩
   exact h.hp.top c (by omega)
  ·rw [eb q (by omega)]
   exact h.le i q hi1 hi2 (by omega) h4
theorem HeapP.front {l:List Int} {f n:Nat} (h:HeapP l f 0 (n+1)) (hn:f+n<l.length):HeapP (swp l f (f+n)) f 1 n:=fun p c h0 hk hc=>by
 have hpc:p<c:=by unfold Kid at hk;omega
 rw [z_bI (by omega) (by omega),z_bI (by omega) (by omega),if_neg (by omega),if_neg (by omega),if_neg (by omega),if_neg (by omega)]
 exact h p c (by omega) hk (by omega)
end Go.Proofs.YtfomhhkoamapmaaGreatDoor.Sx
namespace Go.Proofs.YtfomhhkoamapmaaGreatDoor.Sx
open Go
attribute [local irreducible] Calls
set_option maxHeartbeats 2000000 in
theorem z_xT (w:World) (A:Option Addr) (l:List Int) (c lo hi f:Nat) (hl:l.length<=1000000) (hb:f+hi<=l.length) (hlo:lo<=hi) (h0:0<l.length) (hh:HeapP l f (lo+1) hi) (hm:Mem w [urowF A l c]):
  Con Tryz.prog z_bL #[.slice A l.length c,.int .i64 (lo:Int),.int .i64 (hi:Int),.int .i64 (f:Int)] w [urowF A l c] fun v Fs=>v= .tuple #[]/\ ∃l',Seg l l' f (f+hi)/\HeapP l' f lo hi/\Fs=[urowF A l' c]:=by
 have g:=z_dx w (Un [urowF A l c])
 have hA:=z_dY (hm.fact _ List.mem_cons_self:(urowF A l c).p w)
 obtain ⟨g0,rfl⟩:=hA (by omega)
 refine z_cx (cx:=z_ba w (Un [urowF (some ⟨g0,0,none⟩) l c])) g z_em [.c (.v (.slice (some ⟨g0,0,none⟩) l.length c)),.c (.v (.int .i64 (lo:Int))),.c (.v (.int .i64 (hi:Int))),.c (.v (.int .i64 (f:Int)))] [] hm ?_
 obtain ⟨N,hN⟩: ∃N,l.length=N:=⟨_,rfl⟩
 rw [hN] at hl hb ⊢
 refine z_ae g ?_
 refine z_b3 ?_
 refine z_dq (ι:=InS) 0 (fun s=>[(0,.c (.v (.slice (some ⟨g0,0,none⟩) N c))),(2,.c (.v (.int .i64 (hi:Int)))),(3,.c (.v (.int .i64 (f:Int)))),(8,.c (.v (.int .i64 (s.i:Int))))]) (fun _=>[]) (fun s=>[urowF (some ⟨g0,0,none⟩) s.ys c])
  (fun s=>Seg l s.ys f (f+hi)/\HeapX s.ys f lo hi s.i/\lo<=s.i/\s.i<=hi) (fun s=>hi - s.i) ⟨l,lo⟩ ⟨Seg.refl _ _ _,hh.start,Nat.le_refl _,hlo⟩ (Ent.mk' ⟨rfl,rfl,rfl,rfl,trivial⟩ rfl (fun β w' hs=>hs)) ?_
 rintro ⟨ys,r⟩ ⟨hy,hx,hr,hrh⟩
 simp only at hy hx hr hrh
 have hyl:ys.length=N:=by rw [hy.len,hN]
 refine z_b3 ?_
 refine z_ae g ?_
 refine ⟨((2*r:Nat):Int),by rw [wrap_i64 (by first | omega | (dsimp only;omega)) (by first | omega | (dsimp only;omega))];(first | omega | (dsimp only;omega)),?_⟩
 refine ⟨((2*r+1:Nat):Int),by rw [wrap_i64 (by first | omega | (dsimp only;omega)) (by first | omega | (dsimp only;omega))];(first | omega | (dsimp only;omega)),?_⟩
 refine z_ae g ?_
 refine BIf.dec (fun hge=>?_) (fun hlt=>?_)
 ·have hge:((2*r+1:Nat):Int)>=(hi:Int):=hge
  exact fun β w' hs=>(hs.keepB (List.nil_sublist _)).fin [0] ⟨rfl,ys,hy,hx.done (fun c hc hcn=>by unfold Kid at hc;omega),rfl⟩ rfl rfl rfl ⟨rfl,trivial⟩
 have hlt:2*r+1<hi:=by have h: ¬((2*r+1:Nat):Int)>=(hi:Int):=hlt;omega
 refine z_aM (ι:=Nat) g (fun k=>Kid r k/\k<hi/\ ∀c,Kid r c->c<hi->at0 ys (f+c)<=at0 ys (f+k)) 0 (fun k=>[(0,.c (.v (.slice (some ⟨g0,0,none⟩) N c))),(2,.c (.v (.int .i64 (hi:Int)))),(3,.c (.v (.int .i64 (f:Int)))),(8,.c (.v (.int .i64 (r:Int)))),(9,.c (.v (.int .i64 (k:Int))))]) (fun _=>[]) (fun _=>[urowF (some ⟨g0,0,none⟩) ys c]) ?_ ?_
 rotate_left
 ·refine z_af g z_dV (by kernel_rfl) [] [urowF (some ⟨g0,0,none⟩) ys c] Sub.refl ?_
  refine ⟨((2*r+2:Nat):Int),by rw [wrap_i64 (by omega) (by omega)];omega,?_⟩
  refine BIf.dec (fun h2=>?_) (fun h2=>?_)
  ·have h2:((2*r+2:Nat):Int)<hi:=h2
   refine ⟨((f+(2*r+1):Nat):Int),by rw [wrap_i64 (by omega) (by omega)];omega,?_⟩
   refine ⟨⟨g0,0,none⟩,f+(2*r+1),rfl,rfl,by omega,.int .u64 (at0 ys (f+(2*r+1))),fun β w' hs=>ucell hyl (by omega) hs,?_⟩
   refine ⟨((f+(2*r+1):Nat):Int),by rw [wrap_i64 (by omega) (by omega)];omega,?_⟩
   refine ⟨((f+(2*r+2):Nat):Int),by rw [wrap_i64 (by omega) (by omega)];omega,?_⟩
   refine ⟨⟨g0,0,none⟩,f+(2*r+2),rfl,rfl,by omega,.int .u64 (at0 ys (f+(2*r+2))),fun β w' hs=>ucell hyl (by omega) hs,?_⟩
   obtain ⟨bb,hbb⟩: ∃bb,decide (at0 ys (f+(2*r+1))<at0 ys (f+(2*r+2)))=bb:=⟨_,rfl⟩
   refine z_ah (v:= .bool bb) (fun β w' hs=>by rw [<-hbb];exact z_el w' _ _) ?_
   refine ⟨Sub.refl,?_⟩
   cases bb with
   | true=>
    have hbb:=of_decide_eq_true hbb
    refine ⟨((2*r+2:Nat):Int),by rw [wrap_i64 (by omega) (by omega)];omega,?_⟩
    exact EntX.of (2*r+2) ⟨Or.inr rfl,by omega,fun c hc _=>by
     rcases hc with rfl | rfl
     ·omega
     ·exact Int.le_refl _⟩ (Ent.same ⟨rfl,rfl,rfl,rfl,rfl,trivial⟩ rfl)
   | false=>
    have hbb:=of_decide_eq_false hbb
    exact EntX.of (2*r+1) ⟨Or.inl rfl,by omega,fun c hc _=>by
     rcases hc with rfl | rfl
     ·exact Int.le_refl _
     ·omega⟩ (Ent.same ⟨rfl,rfl,rfl,rfl,rfl,trivial⟩ rfl)
  ·have h2: ¬((2*r+2:Nat):Int)<hi:=h2
   refine ⟨Sub.refl,?_⟩
   exact EntX.of (2*r+1) ⟨Or.inl rfl,by omega,fun c hc hcn=>by
    rcases hc with rfl | rfl
    ·exact Int.le_refl _
    ·omega⟩ (Ent.same ⟨rfl,rfl,rfl,rfl,rfl,trivial⟩ rfl)
 rintro k ⟨hk,hkn,hkm⟩
 have hk2:r<k:=by unfold Kid at hk;omega
 refine z_ae g ?_
 refine z_af g z_dP (by kernel_rfl) [] [urowF (some ⟨g0,0,none⟩) ys c] Sub.refl ?_
 refine ⟨((f+r:Nat):Int),by rw [wrap_i64 (by omega) (by omega)];omega,?_⟩
 refine ⟨⟨g0,0,none⟩,f+r,rfl,rfl,by omega,.int .u64 (at0 ys (f+r)),fun β w' hs=>ucell hyl (by omega) hs,?_⟩
 refine ⟨((f+k:Nat):Int),by rw [wrap_i64 (by omega) (by omega)];omega,?_⟩
 refine ⟨⟨g0,0,none⟩,f+k,rfl,rfl,by omega,.int .u64 (at0 ys (f+k)),fun β w' hs=>ucell hyl (by omega) hs,?_⟩
 obtain ⟨bb,hbb⟩: ∃bb,decide (at0 ys (f+r)<at0 ys (f+k))=bb:=⟨_,rfl⟩
 refine z_ah (v:= .bool bb) (fun β w' hs=>by rw [<-hbb];exact z_el w' _ _) ?_
 refine ⟨Sub.refl,?_⟩
 cases bb with
 | false=>
  have hbb:=of_decide_eq_false hbb
  exact fun β w' hs=>(hs.keepB (List.nil_sublist _)).fin [0] ⟨rfl,ys,hy,hx.done (fun c hc hcn=>Int.le_trans (hkm c hc hcn) (Int.not_lt.1 hbb)),rfl⟩ rfl rfl rfl ⟨rfl,trivial⟩
 | true=>
  have hbb:=of_decide_eq_true hbb
  have hb2:f+hi<=ys.length:=by omega
  refine z_ae g ?_
  have hS: ∀ {n:Nat} {H:List Bk} {F:List Fact},Sub (z_ba w (Un [urowF (some ⟨g0,0,none⟩) l c])) n H F [] []:=fun {n H F}=>Sub.of (List.nil_sublist _) (List.nil_sublist _)
  refine z_af g z_dG (by kernel_rfl) [] [] hS ?_
  refine ⟨((f+r:Nat):Int),by rw [wrap_i64 (by omega) (by omega)];omega,?_⟩
  refine ⟨((f+k:Nat):Int),by rw [wrap_i64 (by omega) (by omega)];omega,?_⟩
  refine ⟨((f+k:Nat):Int),by rw [wrap_i64 (by omega) (by omega)];omega,?_⟩
  refine ⟨⟨g0,0,none⟩,f+k,rfl,rfl,by omega,?_⟩
  refine ⟨((f+r:Nat):Int),by rw [wrap_i64 (by omega) (by omega)];omega,?_⟩
  refine ⟨⟨g0,0,none⟩,f+r,rfl,rfl,by omega,?_⟩
  refine ⟨?_,?_⟩
  ·refine ⟨.int .u64 (at0 ys (f+k)),fun β w' hs=>ucell hyl (by omega) hs,?_⟩
   refine ⟨hS,?_⟩
   refine ⟨.int .u64 (at0 ys (f+r)),fun β w' hs=>ucell hyl (by omega) hs,?_⟩
   refine ⟨hS,?_⟩
   refine ⟨⟨g0,0,none⟩,f+r,rfl,rfl,by omega,?_⟩
   refine ⟨_,fun β w' hs=>Sat.rowSet hs (j:=0) (us:=[.int .u64 (at0 ys (f+k))]) rfl (by show (f+r)*1+1<=ys.length*1;omega) (fun u hu=>by obtain rfl:=List.mem_singleton.1 hu;rfl),?_⟩
   refine ⟨hS,?_⟩
   refine ⟨⟨g0,0,none⟩,f+k,rfl,rfl,by omega,?_⟩
   refine ⟨_,fun β w' hs=>Sat.rowSet hs (j:=0) (us:=[.int .u64 (at0 ys (f+r))]) rfl (by show (f+k)*1+1<=ys.length*1;omega) (fun u hu=>by obtain rfl:=List.mem_singleton.1 hu;rfl),?_⟩
   refine ⟨hS,?_⟩
   refine z_aQ g ?_
   exact ⟨⟨swp ys (f+r) (f+k),k⟩,⟨hy.trans (Seg.swp hb2 (by omega) (by omega) (by omega) (by omega)),hx.step hr hk hkn hb2 hkm hbb,by show lo<=k;omega,by show k<=hi;omega⟩,by show hi - k<hi - r;omega,Ent.mk' ⟨rfl,rfl,rfl,rfl,trivial⟩ rfl (fun β w' hs=>hs.swp)⟩
  ·refine ⟨.int .u64 (at0 ys (f+r)),fun β w' hs=>ucell hyl (by omega) hs,?_⟩
   refine ⟨hS,?_⟩
   refine ⟨.int .u64 (at0 ys (f+k)),fun β w' hs=>ucell hyl (by omega) hs,?_⟩
   refine ⟨hS,?_⟩
   refine ⟨⟨g0,0,none⟩,f+r,rfl,rfl,by omega,?_⟩
   refine ⟨_,fun β w' hs=>Sat.rowSet hs (j:=0) (us:=[.int .u64 (at0 ys (f+k))]) rfl (by show (f+r)*1+1<=ys.length*1;omega) (fun u hu=>by obtain rfl:=List.mem_singleton.1 hu;rfl),?_⟩
   refine ⟨hS,?_⟩
   refine ⟨⟨g0,0,none⟩,f+k,rfl,rfl,by omega,?_⟩
   refine ⟨_,fun β w' hs=>Sat.rowSet hs (j:=0) (us:=[.int .u64 (at0 ys (f+r))]) rfl (by show (f+k)*1+1<=ys.length*1;omega) (fun u hu=>by obtain rfl:=List.mem_singleton.1 hu;rfl),?_⟩
   refine ⟨hS,?_⟩
   refine z_aQ g ?_
   exact ⟨⟨swp ys (f+r) (f+k),k⟩,⟨hy.trans (Seg.swp hb2 (by omega) (by omega) (by omega) (by omega)),hx.step hr hk hkn hb2 hkm hbb,by show lo<=k;omega,by show k<=hi;omega⟩,by show hi - k<hi - r;omega,Ent.mk' ⟨rfl,rfl,rfl,rfl,trivial⟩ rfl (fun β w' hs=>hs.swp)⟩
set_option maxHeartbeats 2000000 in
theorem z_y7 (w:World) (A:Option Addr) (l:List Int) (c a b:Nat) (hl:l.length<=1000000) (hb:b<=l.length) (hab:a<b) (hm:Mem w [urowF A l c]):
  Con Tryz.prog z_bJ #[.slice A l.length c,.int .i64 (a:Int),.int .i64 (b:Int)] w [urowF A l c] fun v Fs=>v= .tuple #[]/\ ∃l',Seg l l' a b/\Rise l' a b/\Fs=[urowF A l' c]:=by
 have g:=z_dw w (Un [urowF A l c])
 have hA:=z_dY (hm.fact _ List.mem_cons_self:(urowF A l c).p w)
 obtain ⟨g0,rfl⟩:=hA (by omega)
 refine z_cx (cx:=z_a8 w (Un [urowF (some ⟨g0,0,none⟩) l c])) g z_ek [.c (.v (.slice (some ⟨g0,0,none⟩) l.length c)),.c (.v (.int .i64 (a:Int))),.c (.v (.int .i64 (b:Int)))] [] hm ?_
 obtain ⟨N,hN⟩: ∃N,l.length=N:=⟨_,rfl⟩
 obtain ⟨d,hd⟩: ∃d,b - a=d:=⟨_,rfl⟩
 rw [hN] at hl hb ⊢
 refine z_ae g ?_
 refine z_ae g ?_
 refine z_ae g ?_
 refine ⟨((b - a:Nat):Int),by rw [wrap_i64 (by first | omega | (dsimp only;omega)) (by first | omega | (dsimp only;omega))];(first | omega | (dsimp only;omega)),?_⟩
 rw [hd]
 refine z_ae g ?_
 refine ⟨((d - 1:Nat):Int),by rw [wrap_i64 (by first | omega | (dsimp only;omega)) (by first | omega | (dsimp only;omega))];(first | omega | (dsimp only;omega)),?_⟩
 refine ⟨by first | decide | omega,?_⟩
 refine ⟨(((d - 1)/2:Nat):Int),by rw [show ((d - 1:Nat):Int).tdiv 2=(((d - 1)/2:Nat):Int) from Int.ofNat_tdiv _ _,wrap_i64 (by omega) (by omega)],?_⟩
 refine z_aQ g ?_
 refine z_ag (ι:=RvS) 0 (fun s=>[(0,.c (.v (.slice (some ⟨g0,0,none⟩) N c))),(6,.c (.v (.int .i64 (a:Int)))),(7,.c (.v (.int .i64 0))),(8,.c (.v (.int .i64 (d:Int)))),(9,.c (.v (.int .i64 s.j)))]) (fun _=>[]) (fun s=>[urowF (some ⟨g0,0,none⟩) s.ys c])
  (fun s=>Seg l s.ys a b/\HeapP s.ys a (s.j+1).toNat d/\ -1<=s.j/\s.j<=d) (fun s=>(s.j+1).toNat) ⟨l,0,(((d - 1)/2:Nat):Int)⟩ ⟨Seg.refl _ _ _,fun p q h1 h2 h3=>by unfold Kid at h2;have h1:((((d - 1)/2:Nat):Int)+1).toNat<=p:=h1;omega,by show -1<=(((d - 1)/2:Nat):Int);omega,by show (((d - 1)/2:Nat):Int)<=d;omega⟩ (Ent.mk' ⟨rfl,rfl,rfl,rfl,rfl,trivial⟩ rfl (fun β w' hs=>hs)) g ?_
 rintro ⟨ys,_,j⟩ ⟨hy,hx,hj,hjd⟩
 simp only at hy hx hj hjd
 have hyl:ys.length=N:=by rw [hy.len,hN]
 refine BIf.dec (fun hge=>?_) (fun hlt=>?_)
 ·have hge:j>=0:=hge
  obtain ⟨k,rfl⟩: ∃k:Nat,j=(k:Int):=Int.eq_ofNat_of_zero_le (by omega)
  rw [show ((k:Int)+1).toNat=k+1 by omega] at hx
  refine z_aa [0] (fun β w' hs=>by
   have h:=z_xT w' (some ⟨g0,0,none⟩) ys c k d a (by omega) (by omega) (by omega) (by omega) hx (hs.mem.take (js:=[0]) rfl)
   rw [hyl] at h
   exact h) ?_
  rintro v Fs ⟨rfl,zs,hz,hzp,rfl⟩
  refine ⟨(k:Int) - 1,by rw [wrap_i64 (by first | omega | (dsimp only;omega)) (by first | omega | (dsimp only;omega))],?_⟩
  exact ⟨⟨zs,0,(k:Int) - 1⟩,⟨hy.trans (hz.wide (Nat.le_refl _) (by omega)),by show HeapP zs a ((k:Int) - 1+1).toNat d;rw [show ((k:Int) - 1+1).toNat=k by omega];exact hzp,by show -1<=(k:Int) - 1;omega,by show (k:Int) - 1<=d;omega⟩,by show ((k:Int) - 1+1).toNat<((k:Int)+1).toNat;omega,Ent.mk' ⟨rfl,rfl,rfl,rfl,rfl,trivial⟩ rfl (fun β w' hs=>hs.perm [0])⟩
 have hlt: ¬j>=0:=hlt
 obtain rfl:j= -1:=by omega
 refine z_ae g ?_
 refine ⟨(d:Int) - 1,by rw [wrap_i64 (by first | omega | (dsimp only;omega)) (by first | omega | (dsimp only;omega))],?_⟩
 refine z_b3 ?_
 refine z_dq (ι:=RvS) 0 (fun s=>[(0,.c (.v (.slice (some ⟨g0,0,none⟩) N c))),(6,.c (.v (.int .i64 (a:Int)))),(7,.c (.v (.int .i64 0))),(10,.c (.v (.int .i64 s.j)))]) (fun _=>[]) (fun s=>[urowF (some ⟨g0,0,none⟩) s.ys c])
  (fun s=>HpS l s.ys a b (s.j+1).toNat/\ -1<=s.j) (fun s=>(s.j+1).toNat) ⟨ys,0,(d:Int) - 1⟩ ⟨by
   show HpS l ys a b ((d:Int) - 1+1).toNat
   rw [show ((d:Int) - 1+1).toNat=d by omega]
   exact ⟨hy,hx,by omega,fun p q h1 h2 h3=>by omega,fun p q h1 h2 h3 h4=>by omega⟩,by show -1<=(d:Int) - 1;omega⟩ (Ent.mk' ⟨rfl,rfl,rfl,rfl,trivial⟩ rfl (fun β w' hs=>hs)) ?_
 clear hy hx hj hjd hyl hlt
 rintro ⟨ys,_,j⟩ ⟨hv,hj⟩
 simp only at hv hj
 have hyl:ys.length=N:=by rw [hv.sg.len,hN]
 refine z_ae g ?_
 refine BIf.dec (fun hge=>?_) (fun hlt=>?_)
 rotate_left
 ·have hlt: ¬j>=0:=hlt
  obtain rfl:j= -1:=by omega
  exact fun β w' hs=>(hs.keepB (List.nil_sublist _)).fin [0] ⟨rfl,ys,hv.sg,HpS.fin hv,rfl⟩ rfl rfl rfl ⟨rfl,trivial⟩
 have hge:j>=0:=hge
 obtain ⟨k,rfl⟩: ∃k:Nat,j=(k:Int):=Int.eq_ofNat_of_zero_le (by omega)
 rw [show ((k:Int)+1).toNat=k+1 by omega] at hv
 have hnb:=hv.nb
 refine z_id ?_
 refine z_b3 ?_
 refine z_aM (ι:=Unit) g (fun _=>True) 0 (fun _=>[(0,.c (.v (.slice (some ⟨g0,0,none⟩) N c))),(6,.c (.v (.int .i64 (a:Int)))),(7,.c (.v (.int .i64 0))),(10,.c (.v (.int .i64 (k:Int))))]) (fun _=>[]) (fun _=>[urowF (some ⟨g0,0,none⟩) (swp ys a (a+k)) c]) ?_ ?_
 rotate_left
 ·skip
  have hS: ∀ {n:Nat} {H:List Bk} {F:List Fact},Sub (z_a8 w (Un [urowF (some ⟨g0,0,none⟩) l c])) n H F [] []:=fun {n H F}=>Sub.of (List.nil_sublist _) (List.nil_sublist _)
  refine z_af g z_dD (by kernel_rfl) [] [] hS ?_
  refine ⟨((a+k:Nat):Int),by rw [wrap_i64 (by first | omega | (dsimp only;omega)) (by first | omega | (dsimp only;omega))];(first | omega | (dsimp only;omega)),?_⟩
  refine ⟨((a+k:Nat):Int),by rw [wrap_i64 (by first | omega | (dsimp only;omega)) (by first | omega | (dsimp only;omega))];(first | omega | (dsimp only;omega)),?_⟩
  refine ⟨⟨g0,0,none⟩,a+k,rfl,rfl,by omega,?_⟩
  refine ⟨⟨g0,0,none⟩,a,rfl,rfl,by omega,?_⟩
  refine ⟨?_,?_⟩
  ·refine ⟨.int .u64 (at0 ys (a+k)),fun β w' hs=>ucell hyl (by omega) hs,?_⟩
   refine ⟨hS,?_⟩
   refine ⟨.int .u64 (at0 ys (a)),fun β w' hs=>ucell hyl (by omega) hs,?_⟩
   refine ⟨hS,?_⟩
   refine ⟨⟨g0,0,none⟩,a,rfl,rfl,by omega,?_⟩
   refine ⟨_,fun β w' hs=>Sat.rowSet hs (j:=0) (us:=[.int .u64 (at0 ys (a+k))]) rfl (by show (a)*1+1<=ys.length*1;omega) (fun u hu=>by obtain rfl:=List.mem_singleton.1 hu;rfl),?_⟩
   refine ⟨hS,?_⟩
   refine ⟨⟨g0,0,none⟩,a+k,rfl,rfl,by omega,?_⟩
   refine ⟨_,fun β w' hs=>Sat.rowSet hs (j:=0) (us:=[.int .u64 (at0 ys (a))]) rfl (by show (a+k)*1+1<=ys.length*1;omega) (fun u hu=>by obtain rfl:=List.mem_singleton.1 hu;rfl),?_⟩
   refine ⟨hS,?_⟩
   exact EntX.of () trivial (Ent.mk' ⟨rfl,rfl,rfl,rfl,trivial⟩ rfl (fun β w' hs=>hs.swp))
  ·refine ⟨.int .u64 (at0 ys (a)),fun β w' hs=>ucell hyl (by omega) hs,?_⟩
   refine ⟨hS,?_⟩
   refine ⟨.int .u64 (at0 ys (a+k)),fun β w' hs=>ucell hyl (by omega) hs,?_⟩
   refine ⟨hS,?_⟩
   refine ⟨⟨g0,0,none⟩,a,rfl,rfl,by omega,?_⟩
   refine ⟨_,fun β w' hs=>Sat.rowSet hs (j:=0) (us:=[.int .u64 (at0 ys (a+k))]) rfl (by show (a)*1+1<=ys.length*1;omega) (fun u hu=>by obtain rfl:=List.mem_singleton.1 hu;rfl),?_⟩
   refine ⟨hS,?_⟩
   refine ⟨⟨g0,0,none⟩,a+k,rfl,rfl,by omega,?_⟩
   refine ⟨_,fun β w' hs=>Sat.rowSet hs (j:=0) (us:=[.int .u64 (at0 ys (a))]) rfl (by show (a+k)*1+1<=ys.length*1;omega) (fun u hu=>by obtain rfl:=List.mem_singleton.1 hu;rfl),?_⟩
   refine ⟨hS,?_⟩
   exact EntX.of () trivial (Ent.mk' ⟨rfl,rfl,rfl,rfl,trivial⟩ rfl (fun β w' hs=>hs.swp))
 rintro ⟨⟩ -
 refine z_aQ g ?_
 refine z_aa [0] (fun β w' hs=>by
  have h:=z_xT w' (some ⟨g0,0,none⟩) (swp ys a (a+k)) c 0 k a (by rw [z_lE];omega) (by rw [z_lE];omega) (by omega) (by rw [z_lE];omega) (HeapP.front hv.hp (by omega)) (hs.mem.take (js:=[0]) rfl)
  rw [z_lE,hyl] at h
  exact h) ?_
 rintro v Fs ⟨rfl,zs,hz,hzp,rfl⟩
 refine z_aQ g ?_
 refine ⟨(k:Int) - 1,by rw [wrap_i64 (by first | omega | (dsimp only;omega)) (by first | omega | (dsimp only;omega))],?_⟩
 exact ⟨⟨zs,0,(k:Int) - 1⟩,⟨by show HpS l zs a b ((k:Int) - 1+1).toNat;rw [show ((k:Int) - 1+1).toNat=k by omega];exact hv.next (by omega) hz hzp,by show -1<=(k:Int) - 1;omega⟩,by show ((k:Int) - 1+1).toNat<((k:Int)+1).toNat;omega,Ent.mk' ⟨rfl,rfl,rfl,rfl,trivial⟩ rfl (fun β w' hs=>hs.perm [0])⟩
theorem z_wa (y:Int) (m:Nat) (hm:m<9223372036854775808): ∃k:Nat,bits .and .u64 y (m:Int)=(k:Int)/\k<=m:=by
 refine ⟨((BitVec.ofInt 64 y)&&&(BitVec.ofInt 64 (m:Int))).toNat,?_,?_⟩
 ·show IntKind.u64.wrap (((BitVec.ofInt 64 y)&&&(BitVec.ofInt 64 (m:Int))).toNat:Int)=_
  have:=((BitVec.ofInt 64 y)&&&(BitVec.ofInt 64 (m:Int))).isLt
  rw [z_aD]
  omega
 ·rw [BitVec.toNat_and,BitVec.ofInt_natCast,BitVec.toNat_ofNat,Nat.mod_eq_of_lt (by omega)]
  exact Nat.and_le_right
theorem z_yH: ∀n,n<50->8<=n->1<=2^Lib.bitLen n/\2^Lib.bitLen n<=2*n:=by decide
theorem z_s3: ∀n,n<50->Lib.bitLen n<=6:=by decide
theorem z_vT (x:Nat) (hx:x<18446744073709551616) (w:World):Pu Tryz.prog z_jh #[.int .u64 (x:Int)] w (.int .i64 (Lib.bitLen x:Nat)):=by
 refine pu_of (Calls.mono (Tryz.bits_Len (x:Int) w (by omega) (by omega)) ?_)
 rintro e w' ⟨rfl,rfl⟩
 exact ⟨_,rfl,rfl,Chg.refl _ _⟩
theorem z_zd (w:World) (n:Nat) (h1:8<=n) (h2:n<50):Pu Tryz.prog z_dT #[.int .i64 (n:Int)] w (.int .u64 ((2^Lib.bitLen n:Nat):Int)):=by
 have g:=z_gu w (Un [])
 refine z_ac (cx:=z_dt w (Un [])) g z_hV rfl rfl (β:=Va.z) [.c (.v (.int .i64 (n:Int)))] 0 [] [] rfl rfl (Sat.start rfl) ?_
 refine ⟨((n:Nat):Int),by rw [z_aD];omega,?_⟩
 refine z_ah (fun β w' hs=>z_vT n (by omega) w') ?_
 have hL:Lib.bitLen n<=6:=z_s3 n h2
 generalize Lib.bitLen n=L at hL
 refine ⟨by omega,?_⟩
 refine ⟨((2^L:Nat):Int),?_,?_⟩
 ·rw [Int.one_mul,Int.toNat_natCast,Nat.min_eq_left (by show L<=64;omega),z_aD]
  have h64:2^L<=2^6:=Nat.pow_le_pow_right (by omega) hL
  rw [Int.natCast_pow]
  have:(2:Int)^L<=64:=by have h:=Int.ofNat_le.2 h64;simpa using h
  have h0:(0:Int)<=2^L:=Int.pow_nonneg (by decide)
  exact Int.emod_eq_of_lt h0 (by omega)
 exact fun β w' hs=>hs.fin [] ⟨rfl,rfl⟩
theorem z_zz (w:World) (pb:Nat) (x:Int) (hm:Mem w [bkF pb z_aE [.int .u64 x]]):
  Con Tryz.prog z_d9 #[.pointer (some ⟨pb,0,none⟩)] w [bkF pb z_aE [.int .u64 x]] fun v Fs=> ∃y:Int,v= .int .u64 y/\Fs=[bkF pb z_aE [.int .u64 y]]:=by
 have g:=z_g8 w (Un [bkF pb z_aE [.int .u64 x]])
 refine z_dN (cx:=z_dU w (Un [bkF pb z_aE [.int .u64 x]])) g z_iH [.c (.v (.pointer (some ⟨pb,0,none⟩)))] [] hm ?_
 refine z_af g z_hN (by kernel_rfl) [] [bkF pb z_aE [.int .u64 x]] Sub.refl ?_
 refine ⟨_,fun β w' hs=>z_ai (hs.get 0 rfl) (o:=0) rfl,?_⟩
 refine ⟨_,fun β w' hs=>z_ai (hs.get 0 rfl) (o:=0) rfl,?_⟩
 refine ⟨by decide,?_⟩
 obtain ⟨r1,hr1⟩: ∃r,IntKind.u64.wrap (x*2^min (Int.toNat 13) IntKind.u64.bits)=r:=⟨_,rfl⟩
 refine ⟨r1,hr1,?_⟩
 obtain ⟨y1,hy1⟩: ∃y,bits .xor .u64 x r1=y:=⟨_,rfl⟩
 refine ⟨y1,hy1,?_⟩
 refine ⟨_,fun β w' hs=>hs.bkSet 0 (o:=0) (us:=[.int .u64 y1]) rfl (Nat.le_refl 1) (fun u hu=>by obtain rfl:=List.mem_singleton.1 hu;rfl),?_⟩
 refine z_af g z_hw (by kernel_rfl) [] [bkF pb z_aE [.int .u64 y1]] Sub.refl ?_
 refine ⟨_,fun β w' hs=>z_ai (hs.get 0 rfl) (o:=0) rfl,?_⟩
 refine ⟨_,fun β w' hs=>z_ai (hs.get 0 rfl) (o:=0) rfl,?_⟩
 refine ⟨by decide,?_⟩
 obtain ⟨r2,hr2⟩: ∃r,Int.fdiv y1 (2^min (Int.toNat 7) IntKind.u64.bits)=r:=⟨_,rfl⟩
 refine ⟨r2,hr2,?_⟩
 obtain ⟨y2,hy2⟩: ∃y,bits .xor .u64 y1 r2=y:=⟨_,rfl⟩
 refine ⟨y2,hy2,?_⟩
 refine ⟨_,fun β w' hs=>hs.bkSet 0 (o:=0) (us:=[.int .u64 y2]) rfl (Nat.le_refl 1) (fun u hu=>by obtain rfl:=List.mem_singleton.1 hu;rfl),?_⟩
 refine z_af g z_hE (by kernel_rfl) [] [bkF pb z_aE [.int .u64 y2]] Sub.refl ?_
 refine ⟨_,fun β w' hs=>z_ai (hs.get 0 rfl) (o:=0) rfl,?_⟩
 refine ⟨_,fun β w' hs=>z_ai (hs.get 0 rfl) (o:=0) rfl,?_⟩
 refine ⟨by decide,?_⟩
 obtain ⟨r3,hr3⟩: ∃r,IntKind.u64.wrap (y2*2^min (Int.toNat 17) IntKind.u64.bits)=r:=⟨_,rfl⟩
 refine ⟨r3,hr3,?_⟩
 obtain ⟨y3,hy3⟩: ∃y,bits .xor .u64 y2 r3=y:=⟨_,rfl⟩
 refine ⟨y3,hy3,?_⟩
 refine ⟨_,fun β w' hs=>hs.bkSet 0 (o:=0) (us:=[.int .u64 y3]) rfl (Nat.le_refl 1) (fun u hu=>by obtain rfl:=List.mem_singleton.1 hu;rfl),?_⟩
 refine ⟨_,fun β w' hs=>z_ai (hs.get 0 rfl) (o:=0) rfl,?_⟩
 exact fun β w' hs=>(hs.keepB (List.nil_sublist _)).fin [0] ⟨y3,rfl,rfl⟩
structure BrS where
 ys:List Int
 i:Nat
 x:Int
set_option maxHeartbeats 2000000 in
theorem z_xZ (w:World) (A:Option Addr) (l:List Int) (c a b:Nat) (hl:l.length<=1000000) (hb:b<=l.length) (hab:a+8<=b) (h50:b<a+50) (hm:Mem w [urowF A l c]):
  Con Tryz.prog z_bl #[.slice A l.length c,.int .i64 (a:Int),.int .i64 (b:Int)] w [urowF A l c] fun v Fs=>v= .tuple #[]/\ ∃l',Seg l l' a b/\Fs=[urowF A l' c]:=by
 have g:=z_cu w (Un [urowF A l c])
 have hA:=z_dY (hm.fact _ List.mem_cons_self:(urowF A l c).p w)
 obtain ⟨g0,rfl⟩:=hA (by omega)
 refine z_cx (cx:=z_aR w (Un [urowF (some ⟨g0,0,none⟩) l c])) g z_c1 [.c (.v (.slice (some ⟨g0,0,none⟩) l.length c)),.c (.v (.int .i64 (a:Int))),.c (.v (.int .i64 (b:Int)))] [] hm ?_
 obtain ⟨N,hN⟩: ∃N,l.length=N:=⟨_,rfl⟩
 obtain ⟨n,hn⟩: ∃n,b - a=n:=⟨_,rfl⟩
 obtain ⟨q,hq⟩: ∃q,n/4=q:=⟨_,rfl⟩
 rw [hN] at hl hb ⊢
 refine z_ae g ?_
 refine ⟨((b - a:Nat):Int),by rw [wrap_i64 (by omega) (by omega)];omega,?_⟩
 rw [hn]
 refine z_aQ g ?_
 refine BIf.dec (fun _=>?_) (fun h=>absurd (show (n:Int)>=8 by omega) h)
 refine ⟨((n:Nat):Int),by rw [z_aD];omega,?_⟩
 refine z_ah (fun β w' hs=>z_zd w' n (by omega) (by omega)) ?_
 obtain ⟨P,hP,hP1,hP2⟩: ∃P,2^Lib.bitLen n=P/\1<=P/\P<=2*n:=⟨_,rfl,z_yH n (by omega) (by omega)⟩
 rw [hP]
 refine ⟨by decide,?_⟩
 refine ⟨(q:Int),by rw [show ((n:Nat):Int).tdiv 4=(q:Int) from by rw [<-hq];exact Int.ofNat_tdiv _ _,wrap_i64 (by omega) (by omega)],?_⟩
 refine ⟨((q*2:Nat):Int),by rw [wrap_i64 (by first | omega | (dsimp only;omega)) (by first | omega | (dsimp only;omega))];(first | omega | (dsimp only;omega)),?_⟩
 refine ⟨((a+q*2:Nat):Int),by rw [wrap_i64 (by first | omega | (dsimp only;omega)) (by first | omega | (dsimp only;omega))];(first | omega | (dsimp only;omega)),?_⟩
 refine ⟨((a+q*2 - 1:Nat):Int),by rw [wrap_i64 (by first | omega | (dsimp only;omega)) (by first | omega | (dsimp only;omega))];(first | omega | (dsimp only;omega)),?_⟩
 refine z_fI 0 (fun _=>[.int .u64 ((n:Nat):Int)]) rfl rfl (fun _=>rfl) (fun pb=>?_)
 refine z_dq (ι:=BrS) 1 (fun s=>[(0,.c (.v (.slice (some ⟨g0,0,none⟩) N c))),(1,.c (.v (.int .i64 (a:Int)))),(6,.c (.v (.int .i64 (n:Int)))),(7,.c (.v (.pointer (some ⟨pb,0,none⟩)))),(8,.c (.v (.int .u64 (P:Int)))),(9,.c (.v (.int .i64 (s.i:Int))))]) (fun _=>[]) (fun s=>[urowF (some ⟨g0,0,none⟩) s.ys c,bkF pb z_aE [.int .u64 s.x]])
  (fun s=>Seg l s.ys a b/\a+q*2 - 1<=s.i/\s.i<=a+q*2+2) (fun s=>a+q*2+2 - s.i) ⟨l,a+q*2 - 1,(n:Int)⟩ ⟨Seg.refl _ _ _,Nat.le_refl _,by show a+q*2 - 1<=a+q*2+2;omega⟩ (Ent.mk' ⟨rfl,rfl,rfl,rfl,rfl,rfl,trivial⟩ rfl (fun β w' hs=>(hs.keepB (List.nil_sublist _)).perm [1,0])) ?_
 rintro ⟨ys,i,x⟩ ⟨hy,hi,hi2⟩
 simp only at hy hi hi2
 have hyl:ys.length=N:=by rw [hy.len,hN]
 refine z_ae g ?_
 refine ⟨by decide,?_⟩
 refine ⟨(q:Int),by rw [show ((n:Nat):Int).tdiv 4=(q:Int) from by rw [<-hq];exact Int.ofNat_tdiv _ _,wrap_i64 (by omega) (by omega)],?_⟩
 refine ⟨((q*2:Nat):Int),by rw [wrap_i64 (by first | omega | (dsimp only;omega)) (by first | omega | (dsimp only;omega))];(first | omega | (dsimp only;omega)),?_⟩
 refine ⟨((a+q*2:Nat):Int),by rw [wrap_i64 (by first | omega | (dsimp only;omega)) (by first | omega | (dsimp only;omega))];(first | omega | (dsimp only;omega)),?_⟩
 refine ⟨((a+q*2+1:Nat):Int),by rw [wrap_i64 (by first | omega | (dsimp only;omega)) (by first | omega | (dsimp only;omega))];(first | omega | (dsimp only;omega)),?_⟩
 refine BIf.dec (fun hle=>?_) (fun hgt=>?_)
 rotate_left
 ·exact fun β w' hs=>(hs.keepB (List.nil_sublist _)).fin [0] ⟨rfl,ys,hy,rfl⟩ rfl rfl rfl ⟨rfl,trivial⟩
 have hle:(i:Int)<=((a+q*2+1:Nat):Int):=hle
 refine z_id ?_
 refine z_b3 ?_
 refine z_ae g ?_
 refine z_aa [1] (fun β w' hs=>z_zz w' pb x (hs.mem.take (js:=[1]) rfl)) ?_
 rintro v Fs ⟨y,rfl,rfl⟩
 refine ⟨((P - 1:Nat):Int),by rw [z_aD];omega,?_⟩
 obtain ⟨m,hm1,hm2⟩:=z_wa y (P - 1) (by omega)
 refine ⟨(m:Int),hm1,?_⟩
 refine ⟨(m:Int),by rw [wrap_i64 (by omega) (by omega)],?_⟩
 refine z_aM (ι:=Nat) g (fun o=>o<n) 1 (fun o=>[(0,.c (.v (.slice (some ⟨g0,0,none⟩) N c))),(1,.c (.v (.int .i64 (a:Int)))),(6,.c (.v (.int .i64 (n:Int)))),(7,.c (.v (.pointer (some ⟨pb,0,none⟩)))),(8,.c (.v (.int .u64 (P:Int)))),(9,.c (.v (.int .i64 (i:Int)))),(10,.c (.v (.int .i64 (o:Int))))]) (fun _=>[]) (fun _=>[urowF (some ⟨g0,0,none⟩) ys c,bkF pb z_aE [.int .u64 y]]) ?_ ?_
 rotate_left
 ·refine BIf.dec (fun h=>?_) (fun h=>?_)
  ·have h:(m:Int)>=n:=h
   refine ⟨((m - n:Nat):Int),by rw [wrap_i64 (by first | omega | (dsimp only;omega)) (by first | omega | (dsimp only;omega))];(first | omega | (dsimp only;omega)),?_⟩
   exact EntX.of (m - n) (by omega) (Ent.mk' ⟨rfl,rfl,rfl,rfl,rfl,rfl,rfl,trivial⟩ rfl (fun β w' hs=>hs.perm [1,0]))
  ·have h: ¬(m:Int)>=n:=h
   exact EntX.of m (by omega) (Ent.mk' ⟨rfl,rfl,rfl,rfl,rfl,rfl,rfl,trivial⟩ rfl (fun β w' hs=>hs.perm [1,0]))
 intro o ho
 refine z_aQ g ?_
 have hS: ∀ {n:Nat} {H:List Bk} {F:List Fact},Sub (z_aR w (Un [urowF (some ⟨g0,0,none⟩) l c])) n H F [] []:=fun {n H F}=>Sub.of (List.nil_sublist _) (List.nil_sublist _)
 refine z_af g z_cB (by kernel_rfl) [] [] hS ?_
 refine ⟨((a+o:Nat):Int),by rw [wrap_i64 (by first | omega | (dsimp only;omega)) (by first | omega | (dsimp only;omega))];(first | omega | (dsimp only;omega)),?_⟩
 refine ⟨((a+o:Nat):Int),by rw [wrap_i64 (by first | omega | (dsimp only;omega)) (by first | omega | (dsimp only;omega))];(first | omega | (dsimp only;omega)),?_⟩
 refine ⟨⟨g0,0,none⟩,a+o,rfl,rfl,by omega,?_⟩
 refine ⟨⟨g0,0,none⟩,i,rfl,rfl,by omega,?_⟩
 refine ⟨?_,?_⟩
 ·refine ⟨.int .u64 (at0 ys (a+o)),fun β w' hs=>ucell hyl (by omega) hs,?_⟩
  refine ⟨hS,?_⟩
  refine ⟨.int .u64 (at0 ys (i)),fun β w' hs=>ucell hyl (by omega) hs,?_⟩
  refine ⟨hS,?_⟩
  refine ⟨⟨g0,0,none⟩,i,rfl,rfl,by omega,?_⟩
  refine ⟨_,fun β w' hs=>Sat.rowSet hs (j:=0) (us:=[.int .u64 (at0 ys (a+o))]) rfl (by show (i)*1+1<=ys.length*1;omega) (fun u hu=>by obtain rfl:=List.mem_singleton.1 hu;rfl),?_⟩
  refine ⟨hS,?_⟩
  refine ⟨⟨g0,0,none⟩,a+o,rfl,rfl,by omega,?_⟩
  refine ⟨_,fun β w' hs=>Sat.rowSet hs (j:=0) (us:=[.int .u64 (at0 ys (i))]) rfl (by show (a+o)*1+1<=ys.length*1;omega) (fun u hu=>by obtain rfl:=List.mem_singleton.1 hu;rfl),?_⟩
  refine ⟨hS,?_⟩
  refine z_aQ g ?_
  refine ⟨((i+1:Nat):Int),by rw [wrap_i64 (by first | omega | (dsimp only;omega)) (by first | omega | (dsimp only;omega))];(first | omega | (dsimp only;omega)),?_⟩
  exact ⟨⟨swp ys i (a+o),i+1,y⟩,⟨hy.trans (Seg.swp (by omega) (by omega) (by omega) (by omega) (by omega)),by show a+q*2 - 1<=i+1;omega,by show i+1<=a+q*2+2;omega⟩,by show a+q*2+2 - (i+1)<a+q*2+2 - i;omega,Ent.mk' ⟨rfl,rfl,rfl,rfl,rfl,rfl,trivial⟩ rfl (fun β w' hs=>hs.swp)⟩
 ·refine ⟨.int .u64 (at0 ys (i)),fun β w' hs=>ucell hyl (by omega) hs,?_⟩
  refine ⟨hS,?_⟩
  refine ⟨.int .u64 (at0 ys (a+o)),fun β w' hs=>ucell hyl (by omega) hs,?_⟩
  refine ⟨hS,?_⟩
  refine ⟨⟨g0,0,none⟩,i,rfl,rfl,by omega,?_⟩
  refine ⟨_,fun β w' hs=>Sat.rowSet hs (j:=0) (us:=[.int .u64 (at0 ys (a+o))]) rfl (by show (i)*1+1<=ys.length*1;omega) (fun u hu=>by obtain rfl:=List.mem_singleton.1 hu;rfl),?_⟩
  refine ⟨hS,?_⟩
  refine ⟨⟨g0,0,none⟩,a+o,rfl,rfl,by omega,?_⟩
  refine ⟨_,fun β w' hs=>Sat.rowSet hs (j:=0) (us:=[.int .u64 (at0 ys (i))]) rfl (by show (a+o)*1+1<=ys.length*1;omega) (fun u hu=>by obtain rfl:=List.mem_singleton.1 hu;rfl),?_⟩
  refine ⟨hS,?_⟩
  refine z_aQ g ?_
  refine ⟨((i+1:Nat):Int),by rw [wrap_i64 (by first | omega | (dsimp only;omega)) (by first | omega | (dsimp only;omega))];(first | omega | (dsimp only;omega)),?_⟩
  exact ⟨⟨swp ys i (a+o),i+1,y⟩,⟨hy.trans (Seg.swp (by omega) (by omega) (by omega) (by omega) (by omega)),by show a+q*2 - 1<=i+1;omega,by show i+1<=a+q*2+2;omega⟩,by show a+q*2+2 - (i+1)<a+q*2+2 - i;omega,Ent.mk' ⟨rfl,rfl,rfl,rfl,rfl,rfl,trivial⟩ rfl (fun β w' hs=>hs.swp)⟩
theorem Sat.urd {cx:Cx} {β:Va} {n:Nat} {H:List Bk} {F:List Fact} {w:World} (h:Sat cx β n H F w) (j:Nat) {A:Option Addr} {l:List Int} {c:Nat} (hj:nth F j=some (urowF A l c)):Sat cx β n H (putAt F j (udF A l)) w:=
 h.upd hj rfl (Chg.refl _ _) (z_aj (h.get j hj)) (fun k hk=> .inl (by
  obtain ⟨_,ad,rfl,rfl⟩:=hk
  rfl))
structure PdI (l ys:List Int) (a b a1 b1:Nat):Prop where
 sg:Seg l ys a b
 ha:a<=a1
 hab:a1<=b1
 hb:b1<=b
 ra:Rise ys a a1
 rb:Rise ys b1 b
 lo: ∀p q,a<=p->p<a1->a1<=q->q<b->at0 ys p<=at0 ys q
 hi: ∀p q,a<=p->p<b1->b1<=q->q<b->at0 ys p<=at0 ys q
theorem PdI.start (l:List Int) {a b:Nat} (h:a<=b):PdI l l a b a b:=
 ⟨Seg.refl _ _ _,Nat.le_refl _,h,Nat.le_refl _,Rise.one _ (by omega),Rise.one _ (by omega),fun p q h1 h2 h3 h4=>by omega,fun p q h1 h2 h3 h4=>by omega⟩
theorem PdI.seg {l ys zs:List Int} {a b a1 b1:Nat} (h:PdI l ys a b a1 b1) (hl:b<=ys.length) (k:Seg ys zs a1 b1):PdI l zs a b a1 b1:=by
 have h1:=h.ha
 have h2:=h.hab
 have h3:=h.hb
 refine ⟨h.sg.trans (k.wide h1 h3),h1,h2,h3,k.rise (Or.inl (Nat.le_refl _)) h.ra,k.rise (Or.inr (Nat.le_refl _)) h.rb,fun p q p1 p2 q1 q2=>?_,fun p q p1 p2 q1 q2=>?_⟩
 ·rw [k.out p (Or.inl p2)]
  by_cases e:q<b1
  ·exact k.all h2 (by omega) (P:=fun z=>at0 ys p<=z) (fun i i1 i2=>h.lo p i p1 p2 i1 (by omega)) q q1 e
  ·rw [k.out q (by omega)];exact h.lo p q p1 p2 q1 q2
 ·rw [k.out q (Or.inr q1)]
  by_cases e:a1<=p
  ·exact k.all h2 (by omega) (P:=fun z=>z<=at0 ys q) (fun i i1 i2=>h.hi i q (by omega) i2 q1 q2) p e p2
  ·rw [k.out p (by omega)];exact h.hi p q p1 p2 q1 q2
theorem PdI.fin {l ys:List Int} {a b a1 b1:Nat} (h:PdI l ys a b a1 b1) (hr:Rise ys a1 b1):Rise ys a b:=fun p q h0 h1 h2=>by
 have i1:=h.ha
 have i2:=h.hab
 have i3:=h.hb
 by_cases e:p<a1
 ·by_cases f:q<a1
  ·exact h.ra p q h0 h1 f
  ·exact h.lo p q h0 e (by omega) h2
 ·by_cases f:b1<=q
  ·by_cases k:b1<=p
   ·exact h.rb p q k h1 h2
   ·exact h.hi p q h0 (by omega) f h2
  ·exact hr p q (by omega) h1 (by omega)
theorem PdI.up {l ys:List Int} {a b a1 b1 m:Nat} (h:PdI l ys a b a1 b1) (h1:a1<=m) (h2:m<=b1) (hr:Rise ys a1 m) (hm: ∀p q,a1<=p->p<m->m<=q->q<b1->at0 ys p<=at0 ys q):PdI l ys a b m b1:=by
 have i1:=h.ha
 have i3:=h.hb
 refine ⟨h.sg,by omega,h2,i3,fun p q p1 p2 p3=>?_,h.rb,fun p q p1 p2 q1 q2=>?_,h.hi⟩
 ·by_cases e:p<a1
  ·by_cases f:q<a1
   ·exact h.ra p q p1 p2 f
   ·exact h.lo p q p1 e (by omega) (by omega)
  ·exact hr p q (by omega) p2 p3
 ·by_cases e:p<a1
  ·exact h.lo p q p1 e (by omega) q2
  ·by_cases f:q<b1
   ·exact hm p q (by omega) p2 q1 f
   ·exact h.hi p q p1 (by omega) (by omega) q2
theorem PdI.dn {l ys:List Int} {a b a1 b1 m:Nat} (h:PdI l ys a b a1 b1) (h1:a1<=m) (h2:m<=b1) (hr:Rise ys m b1) (hm: ∀p q,a1<=p->p<m->m<=q->q<b1->at0 ys p<=at0 ys q):PdI l ys a b a1 m:=by
 have i1:=h.ha
 have i3:=h.hb
 refine ⟨h.sg,i1,h1,by omega,h.ra,fun p q p1 p2 p3=>?_,h.lo,fun p q p1 p2 q1 q2=>?_⟩
 ·by_cases e:b1<=q
  ·by_cases f:b1<=p
   ·exact h.rb p q f p2 p3
   ·exact h.hi p q (by omega) (by omega) e p3
  ·exact hr p q p1 p2 (by omega)
 ·by_cases e:b1<=q
  ·exact h.hi p q p1 (by omega) e q2
  ·by_cases f:p<a1
   ·exact h.lo p q p1 f (by omega) q2
   ·exact hm p q (by omega) p2 q1 (by omega)
theorem PdI.midUp {l ys:List Int} {a b a1 b1 k:Nat} {x:Int} (h:PdI l ys a b a1 b1) (h1:a1<=k) (h2:k<b1) (hx:at0 ys k=x) (hlo: ∀q,a1<=q->q<k->at0 ys q<=x) (hhi: ∀q,k<q->q<b1->x<=at0 ys q) (hr:Rise ys a1 k):PdI l ys a b (k+1) b1:=by
 refine h.up (by omega) (by omega) (fun p q e1 e2 e3=>?_) (fun p q e1 e2 e3 e4=>?_)
 ·by_cases e:q=k
  ·rw [e,hx];exact hlo p e1 (by omega)
  ·exact hr p q e1 e2 (by omega)
 ·by_cases e:p=k
  ·rw [e,hx];exact hhi q (by omega) e4
  ·exact Int.le_trans (hlo p e1 (by omega)) (hhi q (by omega) e4)
theorem PdI.midDn {l ys:List Int} {a b a1 b1 k:Nat} {x:Int} (h:PdI l ys a b a1 b1) (h1:a1<=k) (h2:k<b1) (hx:at0 ys k=x) (hlo: ∀q,a1<=q->q<k->at0 ys q<=x) (hhi: ∀q,k<q->q<b1->x<=at0 ys q) (hr:Rise ys (k+1) b1):PdI l ys a b a1 k:=by
 refine h.dn (by omega) (by omega) (fun p q e1 e2 e3=>?_) (fun p q e1 e2 e3 e4=>?_)
 ·by_cases e:p=k
  ·rw [e,hx];exact hhi q (by omega) e3
  ·exact hr p q (by omega) e2 e3
 ·by_cases e:q=k
  ·rw [e,hx];exact hlo p e1 e2
  ·exact Int.le_trans (hlo p e1 e2) (hhi q (by omega) e4)
def Front (ys:List Int) (a b:Nat):Prop:=0<a-> ∀q,a<=q->q<b->at0 ys (a - 1)<=at0 ys q
theorem Front.seg {ys zs:List Int} {a b:Nat} (h:Front ys a b) (hab:a<=b) (hb:b<=ys.length) (k:Seg ys zs a b):Front zs a b:=fun h0=>by
 rw [k.out (a - 1) (by omega)]
 exact k.all hab hb (P:=fun z=>at0 ys (a - 1)<=z) (fun q h1 h2=>h h0 q h1 h2)
theorem PdI.front {l ys:List Int} {a b a1 b1:Nat} (h:PdI l ys a b a1 b1) (hl:b<=l.length) (hf:Front l a b):Front ys a1 b1:=fun h0 q q1 q2=>by
 have i1:=h.ha
 have i2:=h.hab
 have i3:=h.hb
 by_cases e:a=a1
 ·subst e
  exact (hf.seg (by omega) hl h.sg) h0 q q1 (by omega)
 ·exact h.lo (a1 - 1) q (by omega) (by omega) q1 (by omega)
structure PdS where
 ys:List Int
 a:Nat
 b:Nat
 m:Nat
 wb:Bool
 wp:Bool
set_option maxHeartbeats 4000000 in
theorem pdq_c (n:Nat): ∀(w:World) (A:Option Addr) (l:List Int) (c a b m:Nat),b - a=n->l.length<=1000000->b<=l.length->a<=b->b<a+50->m<=1000->Front l a b->Mem w [urowF A l c]->
  Con Tryz.prog z_bd #[.slice A l.length c,.int .i64 (a:Int),.int .i64 (b:Int),.int .i64 (m:Int)] w [urowF A l c] fun v Fs=>v= .tuple #[]/\ ∃l',Seg l l' a b/\Rise l' a b/\Fs=[urowF A l' c]:=by
 induction n using Nat.strongRecOn with
 | _ n ih=>
 intro w A l c a b m hn hl hb hab h50 hm0 hf hm
 have g:=z_by w (Un [urowF A l c])
 have hA:=z_dY (hm.fact _ List.mem_cons_self:(urowF A l c).p w)
 refine z_cx (cx:=z_aP w (Un [urowF A l c])) g z_bT [.c (.v (.slice A l.length c)),.c (.v (.int .i64 (a:Int))),.c (.v (.int .i64 (b:Int))),.c (.v (.int .i64 (m:Int)))] [] hm ?_
 obtain ⟨N,hN⟩: ∃N,l.length=N:=⟨_,rfl⟩
 rw [hN] at hl hb hA ⊢
 refine z_ae g ?_
 refine z_ae g ?_
 refine z_b3 ?_
 refine z_dq (ι:=PdS) 0 (fun s=>[(0,.c (.v (.slice A N c))),(1,.c (.v (.int .i64 (s.a:Int)))),(2,.c (.v (.int .i64 (s.b:Int)))),(3,.c (.v (.int .i64 (s.m:Int)))),(8,.c (.v (.bool s.wb))),(9,.c (.v (.bool s.wp)))]) (fun _=>[]) (fun s=>[urowF A s.ys c])
  (fun s=>PdI l s.ys a b s.a s.b/\s.m<=1000) (fun s=>s.b - s.a) ⟨l,a,b,m,true,true⟩ ⟨PdI.start l hab,hm0⟩ (Ent.mk' ⟨rfl,rfl,rfl,rfl,rfl,rfl,trivial⟩ rfl (fun β w' hs=>hs)) ?_
 rintro ⟨ys,a1,b1,m1,wb,wp⟩ ⟨hv,hm1⟩
 simp only at hv hm1
 have hyl:ys.length=N:=by rw [hv.sg.len,hN]
 have hva:=hv.ha
 have hvb:=hv.hb
 have hvab:=hv.hab
 have hfr:=hv.front (by omega) hf
 refine z_b3 ?_
 obtain ⟨d,hd⟩: ∃d,b1 - a1=d:=⟨_,rfl⟩
 refine z_ae g ?_
 refine ⟨((b1 - a1:Nat):Int),by rw [wrap_i64 (by first | omega | (dsimp only;omega)) (by first | omega | (dsimp only;omega))];(first | omega | (dsimp only;omega)),?_⟩
 rw [hd]
 refine z_ae g ?_
 refine BIf.dec (fun _=>?_) (fun hgt=>?_)
 ·refine z_aa [0] (fun β w' hs=>by
   have h:=z_zD w' A ys c a1 b1 (by omega) (by omega) (by omega) (hs.mem.take (js:=[0]) rfl)
   rw [hyl] at h
   exact h) ?_
  rintro v Fs ⟨rfl,zs,hz,hzr,rfl⟩
  have hv2:=hv.seg (by omega) hz
  exact fun β w' hs=>(hs.keepB (List.nil_sublist _)).fin [0] ⟨rfl,zs,hv2.sg,hv2.fin hzr,rfl⟩ rfl rfl rfl ⟨rfl,trivial⟩
 have hgt:12<d:=by have h: ¬((d:Nat):Int)<=12:=hgt;omega
 obtain ⟨g0,rfl⟩:=hA (by omega)
 refine z_ae g ?_
 refine BIf.dec (fun _=>?_) (fun hm2=>?_)
 ·refine z_aa [0] (fun β w' hs=>by
   have h:=z_y7 w' (some ⟨g0,0,none⟩) ys c a1 b1 (by omega) (by omega) (by omega) (hs.mem.take (js:=[0]) rfl)
   rw [hyl] at h
   exact h) ?_
  rintro v Fs ⟨rfl,zs,hz,hzr,rfl⟩
  have hv2:=hv.seg (by omega) hz
  exact fun β w' hs=>(hs.keepB (List.nil_sublist _)).fin [0] ⟨rfl,zs,hv2.sg,hv2.fin hzr,rfl⟩ rfl rfl rfl ⟨rfl,trivial⟩
 have hm2:0<m1:=by have h: ¬(m1:Int)=0:=hm2;omega
 refine z_aM (ι:=List Int×Nat) g (fun s=>PdI l s.1 a b a1 b1/\s.2<=1000) 0 (fun s=>[(0,.c (.v (.slice (some ⟨g0,0,none⟩) N c))),(1,.c (.v (.int .i64 (a1:Int)))),(2,.c (.v (.int .i64 (b1:Int)))),(3,.c (.v (.int .i64 (s.2:Int)))),(8,.c (.v (.bool wb))),(9,.c (.v (.bool wp))),(10,.c (.v (.int .i64 (d:Int))))]) (fun _=>[]) (fun s=>[urowF (some ⟨g0,0,none⟩) s.1 c]) ?_ ?_
 rotate_left
 ·cases wb with
  | true=>exact EntX.of (ys,m1) ⟨hv,hm1⟩ (Ent.same ⟨rfl,rfl,rfl,rfl,rfl,rfl,rfl,trivial⟩ rfl)
  | false=>
   refine z_aa [0] (fun β w' hs=>by
    have h:=z_xZ w' (some ⟨g0,0,none⟩) ys c a1 b1 (by omega) (by omega) (by omega) (by omega) (hs.mem.take (js:=[0]) rfl)
    rw [hyl] at h
    exact h) ?_
   rintro v Fs ⟨rfl,zs,hz,rfl⟩
   refine ⟨((m1 - 1:Nat):Int),by rw [wrap_i64 (by first | omega | (dsimp only;omega)) (by first | omega | (dsimp only;omega))];(first | omega | (dsimp only;omega)),?_⟩
   exact EntX.of (zs,m1 - 1) ⟨hv.seg (by omega) hz,by show m1 - 1<=1000;omega⟩ (Ent.mk' ⟨rfl,rfl,rfl,rfl,rfl,rfl,rfl,trivial⟩ rfl (fun β w' hs=>hs.perm [0]))
 clear hv hm1 hyl hfr hm2
 rintro ⟨ys,m1⟩ ⟨hv,hm1⟩
 simp only at hv hm1
 have hyl:ys.length=N:=by rw [hv.sg.len,hN]
 refine z_ae g ?_
 refine z_aa [] (fun β w' hs=>by
  have h:=z_yK w' (some ⟨g0,0,none⟩) ys c a1 b1 (by omega) (by omega) (by omega) (by omega) ((hs.urd 0 rfl).mem.take (js:=[0]) rfl)
  rw [hyl] at h
  exact h) ?_
 rintro v Fs ⟨⟨p,hint,rfl,hp1,hp2⟩,rfl⟩
 refine z_aM (ι:=List Int×Nat×Int) g (fun s=>PdI l s.1 a b a1 b1/\a1<=s.2.1/\s.2.1<b1) 0 (fun s=>[(0,.c (.v (.slice (some ⟨g0,0,none⟩) N c))),(1,.c (.v (.int .i64 (a1:Int)))),(2,.c (.v (.int .i64 (b1:Int)))),(3,.c (.v (.int .i64 (m1:Int)))),(8,.c (.v (.bool wb))),(9,.c (.v (.bool wp))),(10,.c (.v (.int .i64 (d:Int)))),(11,.c (.v (.int .i64 (s.2.1:Int)))),(12,.c (.v (.int .i64 s.2.2)))]) (fun _=>[]) (fun s=>[urowF (some ⟨g0,0,none⟩) s.1 c]) ?_ ?_
 rotate_left
 ·refine BIf.dec (fun _=>?_) (fun _=>?_)
  ·refine z_aa [0] (fun β w' hs=>by
    have h:=z_zs w' (some ⟨g0,0,none⟩) ys c a1 b1 (by omega) (by omega) (by omega) (hs.mem.take (js:=[0]) rfl)
    rw [hyl] at h
    exact h) ?_
   rintro v Fs ⟨rfl,zs,hz,rfl⟩
   refine ⟨((b1 - 1:Nat):Int),by rw [wrap_i64 (by first | omega | (dsimp only;omega)) (by first | omega | (dsimp only;omega))];(first | omega | (dsimp only;omega)),?_⟩
   refine ⟨((p - a1:Nat):Int),by rw [wrap_i64 (by first | omega | (dsimp only;omega)) (by first | omega | (dsimp only;omega))];(first | omega | (dsimp only;omega)),?_⟩
   refine ⟨((b1 - 1 - (p - a1):Nat):Int),by rw [wrap_i64 (by first | omega | (dsimp only;omega)) (by first | omega | (dsimp only;omega))];(first | omega | (dsimp only;omega)),?_⟩
   exact EntX.of (zs,b1 - 1 - (p - a1),1) ⟨hv.seg (by omega) hz,by show a1<=b1 - 1 - (p - a1);omega,by show b1 - 1 - (p - a1)<b1;omega⟩ (Ent.mk' ⟨rfl,rfl,rfl,rfl,rfl,rfl,rfl,rfl,rfl,trivial⟩ rfl (fun β w' hs=>hs.perm [0]))
  ·exact EntX.of (ys,p,hint) ⟨hv,hp1,hp2⟩ (Ent.same ⟨rfl,rfl,rfl,rfl,rfl,rfl,rfl,rfl,rfl,trivial⟩ rfl)
 clear hv hyl hp1 hp2
 rintro ⟨ys,p,hint⟩ ⟨hv,hp1,hp2⟩
 simp only at hv hp1 hp2
 have hyl:ys.length=N:=by rw [hv.sg.len,hN]
 have hfr:=hv.front (by omega) hf
 refine z_aM (ι:=Unit) g (fun _=>True) 0 (fun _=>[(0,.c (.v (.slice (some ⟨g0,0,none⟩) N c))),(1,.c (.v (.int .i64 (a1:Int)))),(2,.c (.v (.int .i64 (b1:Int)))),(3,.c (.v (.int .i64 (m1:Int)))),(8,.c (.v (.bool wb))),(9,.c (.v (.bool wp))),(10,.c (.v (.int .i64 (d:Int)))),(11,.c (.v (.int .i64 (p:Int))))]) (fun _=>[]) (fun _=>[urowF (some ⟨g0,0,none⟩) ys c]) ?_ ?_
 rotate_left
 ·cases wb with
  | false=>exact EntX.of () trivial (Ent.same ⟨rfl,rfl,rfl,rfl,rfl,rfl,rfl,rfl,trivial⟩ rfl)
  | true=>
   cases wp with
   | false=>exact EntX.of () trivial (Ent.same ⟨rfl,rfl,rfl,rfl,rfl,rfl,rfl,rfl,trivial⟩ rfl)
   | true=>
    refine BIf.dec (fun _=>?_) (fun _=>?_)
    ·refine z_aa [0] (fun β w' hs=>by
      have h:=z_za w' (some ⟨g0,0,none⟩) ys c a1 b1 (by omega) (by omega) (by omega) (by omega) (hs.mem.take (js:=[0]) rfl)
      rw [hyl] at h
      exact h) ?_
     rintro v Fs ⟨f,rfl,hfR,rfl⟩
     cases f with
     | true=>exact fun β w' hs=>(hs.keepB (List.nil_sublist _)).fin [0] ⟨rfl,ys,hv.sg,hv.fin (hfR rfl),rfl⟩ rfl rfl rfl ⟨rfl,trivial⟩
     | false=>exact EntX.of () trivial (Ent.mk' ⟨rfl,rfl,rfl,rfl,rfl,rfl,rfl,rfl,trivial⟩ rfl (fun β w' hs=>hs.perm [0]))
    ·exact EntX.of () trivial (Ent.same ⟨rfl,rfl,rfl,rfl,rfl,rfl,rfl,rfl,trivial⟩ rfl)
 rintro ⟨⟩ -
 obtain ⟨x,hx⟩: ∃x,at0 ys p=x:=⟨_,rfl⟩
 refine z_aM (ι:=Unit) g (fun _=>True) 0 (fun _=>[(0,.c (.v (.slice (some ⟨g0,0,none⟩) N c))),(1,.c (.v (.int .i64 (a1:Int)))),(2,.c (.v (.int .i64 (b1:Int)))),(3,.c (.v (.int .i64 (m1:Int)))),(8,.c (.v (.bool wb))),(9,.c (.v (.bool wp))),(10,.c (.v (.int .i64 (d:Int)))),(11,.c (.v (.int .i64 (p:Int))))]) (fun _=>[]) (fun _=>[urowF (some ⟨g0,0,none⟩) ys c]) ?_ ?_
 rotate_left
 ·refine z_af g z_dE (by kernel_rfl) [] [urowF (some ⟨g0,0,none⟩) ys c] Sub.refl ?_
  refine BIf.dec (fun h0=>?_) (fun h0=>?_)
  ·have h0:0<a1:=by have h:(a1:Int)>0:=h0;omega
   refine ⟨((a1 - 1:Nat):Int),by rw [wrap_i64 (by first | omega | (dsimp only;omega)) (by first | omega | (dsimp only;omega))];(first | omega | (dsimp only;omega)),?_⟩
   refine ⟨⟨g0,0,none⟩,a1 - 1,rfl,rfl,by omega,.int .u64 (at0 ys (a1 - 1)),fun β w' hs=>ucell hyl (by omega) hs,?_⟩
   refine ⟨⟨g0,0,none⟩,p,rfl,rfl,by omega,.int .u64 (at0 ys p),fun β w' hs=>ucell hyl (by omega) hs,?_⟩
   rw [hx]
   obtain ⟨bb,hbb⟩: ∃bb,decide (at0 ys (a1 - 1)<x)=bb:=⟨_,rfl⟩
   refine z_ah (v:= .bool bb) (fun β w' hs=>by rw [<-hbb];exact z_el w' _ _) ?_
   refine ⟨Sub.refl,?_⟩
   cases bb with
   | true=>exact EntX.of () trivial (Ent.same ⟨rfl,rfl,rfl,rfl,rfl,rfl,rfl,rfl,trivial⟩ rfl)
   | false=>
    have hng: ¬at0 ys (a1 - 1)<x:=of_decide_eq_false hbb
    refine z_aa [0] (fun β w' hs=>by
     have h:=pEq_c w' (some ⟨g0,0,none⟩) ys c a1 b1 p (by omega) (by omega) hp1 hp2 (hs.mem.take (js:=[0]) rfl)
     rw [hyl] at h
     exact h) ?_
    rintro v Fs ⟨zs,k,rfl,hz,hk1,hk2,hlo,hhi,rfl⟩
    rw [hx] at hlo hhi
    have hge: ∀q,a1<=q->q<b1->x<=at0 zs q:=hz.all (by omega) (by omega) (P:=fun z=>x<=z) (fun q q1 q2=>Int.le_trans (Int.not_lt.1 hng) (hfr h0 q q1 q2))
    have hpd:PdI l zs a b k b1:=(hv.seg (by omega) hz).up (by omega) hk2 (fun p' q' e1 e2 e3=>Int.le_trans (hlo p' e1 (by omega)) (hge q' (by omega) (by omega))) (fun p' q' e1 e2 e3 e4=>Int.le_of_lt (Int.lt_of_le_of_lt (hlo p' e1 e2) (hhi q' e3 e4)))
    exact ⟨⟨zs,k,b1,m1,wb,wp⟩,⟨hpd,hm1⟩,by show b1 - k<d;omega,Ent.mk' ⟨rfl,rfl,rfl,rfl,rfl,rfl,trivial⟩ rfl (fun β w' hs=>hs.perm [0])⟩
  ·refine ⟨Sub.refl,?_⟩
   exact EntX.of () trivial (Ent.same ⟨rfl,rfl,rfl,rfl,rfl,rfl,rfl,rfl,trivial⟩ rfl)
 rintro ⟨⟩ -
 refine z_ae g ?_
 refine z_aa [0] (fun β w' hs=>by
  have h:=z_yF w' (some ⟨g0,0,none⟩) ys c a1 b1 p (by omega) (by omega) hp1 hp2 (hs.mem.take (js:=[0]) rfl)
  rw [hyl] at h
  exact h) ?_
 rintro v Fs ⟨zs,k,f,rfl,hz,hk1,hk2,hkx,hlo,hhi,rfl⟩
 rw [hx] at hkx hlo hhi
 have hzl:zs.length=N:=by rw [hz.len,hyl]
 have hv2:=hv.seg (by omega) hz
 have hfz:=hfr.seg (by omega) (by omega) hz
 refine z_ae g ?_
 refine z_ae g ?_
 refine ⟨((k - a1:Nat):Int),by rw [wrap_i64 (by first | omega | (dsimp only;omega)) (by first | omega | (dsimp only;omega))];(first | omega | (dsimp only;omega)),?_⟩
 refine ⟨((b1 - k:Nat):Int),by rw [wrap_i64 (by first | omega | (dsimp only;omega)) (by first | omega | (dsimp only;omega))];(first | omega | (dsimp only;omega)),?_⟩
 refine z_ae g ?_
 refine ⟨by decide,?_⟩
 refine ⟨((d/8:Nat):Int),by rw [show ((d:Nat):Int).tdiv 8=((d/8:Nat):Int) from Int.ofNat_tdiv _ _,wrap_i64 (by omega) (by omega)],?_⟩
 refine z_aQ g ?_
 refine BIf.dec (fun _=>?_) (fun _=>?_)
 ·refine z_aa [0] (fun β w' hs=>by
   have h:=ih (k - a1) (by omega) w' (some ⟨g0,0,none⟩) zs c a1 k m1 rfl (by omega) (by omega) (by omega) (by omega) hm1 (fun h0 q q1 q2=>hfz h0 q q1 (by omega)) (hs.mem.take (js:=[0]) rfl)
   rw [hzl] at h
   exact h) ?_
  rintro v Fs ⟨rfl,ws,hw,hwr,rfl⟩
  refine ⟨((k+1:Nat):Int),by rw [wrap_i64 (by first | omega | (dsimp only;omega)) (by first | omega | (dsimp only;omega))];(first | omega | (dsimp only;omega)),?_⟩
  have hpd:PdI l ws a b (k+1) b1:=(hv2.seg (by omega) (hw.wide (Nat.le_refl _) (by omega))).midUp hk1 hk2 (by rw [hw.out k (Or.inr (Nat.le_refl _))];exact hkx) (hw.all hk1 (by omega) (P:=fun z=>z<=x) hlo) (fun q q1 q2=>by rw [hw.out q (by omega)];exact hhi q q1 q2) hwr
  exact ⟨⟨ws,k+1,b1,m1,_,f⟩,⟨hpd,hm1⟩,by show b1 - (k+1)<d;omega,Ent.mk' ⟨rfl,rfl,rfl,rfl,rfl,rfl,trivial⟩ rfl (fun β w' hs=>hs.perm [0])⟩
 ·refine ⟨((k+1:Nat):Int),by rw [wrap_i64 (by first | omega | (dsimp only;omega)) (by first | omega | (dsimp only;omega))];(first | omega | (dsimp only;omega)),?_⟩
  refine z_aa [0] (fun β w' hs=>by
   have h:=ih (b1 - (k+1)) (by omega) w' (some ⟨g0,0,none⟩) zs c (k+1) b1 m1 rfl (by omega) (by omega) (by omega) (by omega) hm1 (fun _ q q1 q2=>by rw [show k+1 - 1=k from rfl,hkx];exact hhi q (by omega) q2) (hs.mem.take (js:=[0]) rfl)
   rw [hzl] at h
   exact h) ?_
  rintro v Fs ⟨rfl,ws,hw,hwr,rfl⟩
  have hpd:PdI l ws a b a1 k:=(hv2.seg (by omega) (hw.wide (by omega) (Nat.le_refl _))).midDn hk1 hk2 (by rw [hw.out k (by omega)];exact hkx) (fun q q1 q2=>by rw [hw.out q (by omega)];exact hlo q q1 q2) (fun q q1 q2=>hw.all (by omega) (by omega) (P:=fun z=>x<=z) (fun q q1 q2=>hhi q (by omega) q2) q (by omega) q2) hwr
  exact ⟨⟨ws,a1,k,m1,_,f⟩,⟨hpd,hm1⟩,by show k - a1<d;omega,Ent.mk' ⟨rfl,rfl,rfl,rfl,rfl,rfl,trivial⟩ rfl (fun β w' hs=>hs.perm [0])⟩
theorem Rise.pairs {l:List Int} (h:Rise l 0 l.length):l.Pairwise (· <= ·):=by
 rw [List.pairwise_iff_getElem]
 intro p q hp hq hpq
 have:=h p q (Nat.zero_le _) hpq hq
 rwa [z_po hp,z_po hq] at this
theorem z_wc (w:World) (A:Option Addr) (l:List Int) (c:Nat) (hl:l.length<50) (hm:Mem w [urowF A l c]):
  Con Tryz.prog z_bq #[.slice A l.length c] w [urowF A l c] fun v Fs=>v= .tuple #[]/\ ∃l',l'.Perm l/\l'.Pairwise (· <= ·)/\Fs=[urowF A l' c]:=by
 have g:=z_bU w (Un [urowF A l c])
 refine z_dN (cx:=z_a0 w (Un [urowF A l c])) g z_cE [.c (.v (.slice A l.length c))] [] hm ?_
 refine ⟨(l.length:Int),by rw [z_aD];omega,?_⟩
 refine z_ah (fun β w' hs=>z_vT l.length (by omega) w') ?_
 have h6:=z_s3 l.length hl
 refine z_aa [0] (fun β w' hs=>pdq_c _ w' A l c 0 l.length (Lib.bitLen l.length) rfl (by omega) (Nat.le_refl _) (Nat.zero_le _) (by omega) (by omega) (fun h=>absurd h (by decide)) (hs.mem.take (js:=[0]) rfl)) ?_
 rintro v Fs ⟨rfl,l',h1,h2,rfl⟩
 intro β w' hs
 exact hs.fin [0] ⟨rfl,l',h1.perm,Rise.pairs (by rw [h1.len];exact h2),rfl⟩ rfl rfl rfl ⟨rfl,trivial⟩
theorem z_pN (w:World) (k:FuncId) (bx:Nat) (ty:TypeId) (cs:List Value) (G G':Fact) (n:Nat) (P:List Int->Prop) (hcall:callable Tryz.prog k=true) (hG:G.own=true) (hG':G'.own=true) (hn:n<50) (hg:GivesN k bx ty cs G G' n P) (hm:Mem w [bkF bx ty cs,G]):
  Con Tryz.prog 35 #[.func (.func k) #[] #[.pointer (some ⟨bx,0,none⟩)]] w [bkF bx ty cs,G] fun v Fs=> ∃A c l,v= .slice A l.length c/\(∃l0,P l0/\l.Perm l0)/\l.length<=n/\l.Pairwise (· <= ·)/\(0<l.length-> ∃ad,A=some ad)/\Fs=[urowF A l c,G']:=by
 have g:=z_c4 w (Un [bkF bx ty cs,G])
 have hs0:Sat (z_a3 w (Un [bkF bx ty cs,G])) Va.z 0 [] [bkF bx ty cs,G] w:=hm.sat0 rfl (fun f hf _ k hk=>⟨f,hf,hk⟩)
 refine z_ac (cx:=z_a3 w (Un [bkF bx ty cs,G])) g z_ef rfl rfl (β:=Va.z) [.c (.v (.func (.func k) #[] #[.pointer (some ⟨bx,0,none⟩)]))] 0 [] _ rfl rfl hs0 ?_
 refine z_aa [0,1] (hown:=⟨rfl,hG,trivial⟩) (fun β w' hs=>z_kx w' k bx ty cs G G' n P hcall hG hG' (by omega) hg (hs.mem.take (js:=[0,1]) rfl)) ?_
 rintro v Fs ⟨A,c,l,rfl,hP,hlen,hA,rfl⟩
 refine z_aa [0] (fun β w' hs=>z_wc w' A l c (by omega) (hs.mem.take (js:=[0]) rfl)) ?_
 rintro v Fs ⟨rfl,l',h1,h2,rfl⟩
 have hl:=h1.length_eq
 intro β w' hs
 refine hs.fin [0,1] ⟨A,c,l',by rw [hl];rfl,⟨l,hP,h1⟩,by omega,h2,by rw [hl];exact hA,rfl⟩ rfl rfl rfl ⟨rfl,hG',trivial⟩
theorem z_rt (bx b:Nat) (lm:MLI):GivesN 84 bx z_av [.map (some b)] (mapIF .u64 b lm) (mapIF .u64 b lm) lm.length (fun xs=>xs.Perm (lm.map (·.1))):=
 fun l w f0 R J Jx hJ0 hJo hRo hY hm=>z_u5 l w bx b lm f0 R J Jx hJ0 hJo hRo hY hm
theorem z_qW (bx b:Nat) (lm:MLI):GivesN 62 bx z_az [.map (some b)] (mapIF .u64 b lm) (mapIF .u64 b lm) lm.length (fun xs=>xs.Perm (lm.map (·.1))):=
 fun l w f0 R J Jx hJ0 hJo hRo hY hm=>z_uY l w bx b lm f0 R J Jx hJ0 hJo hRo hY hm
theorem z_ww (w:World) (d:Dk) (h:(dkF d).p w) (hl: ∀k,(dkF d).D k->k<w.heap.size):Pu Tryz.prog z_cT #[ptrD d.b] w (.int .u64 (d.serial:Int)):=by
 have g:=z_is w (Un [])
 refine z_ac (cx:=z_ey w (Un [])) g z_kP rfl rfl (β:=Va.z) [.c (.v (ptrD d.b))] 0 [] [oldF w] rfl rfl (z_aS rfl) ?_
 refine ⟨.int .u64 (d.serial:Int),fun β w' hs=>z_ai (dk_bk (z_eK h hl (hs.get 0 rfl))) (o:=2) rfl,?_⟩
 intro β w' hs
 exact hs.fin [] ⟨rfl,rfl⟩
theorem z_q0 (w:World) (b:Nat):Con Tryz.prog z_eY #[ptrD b] w [] (fun v Fs=> ∃bx,v= .func (.func z_aG) #[] #[.pointer (some ⟨bx,0,none⟩)]/\Fs=[bkF bx z_aw [ptrD b]]):=by
 refine z_ac (cx:=z_ea w (Un [])) (z_hA w (Un [])) z_je rfl rfl (β:=Va.z) [.c (.v (ptrD b))] 0 [] [] rfl rfl (Sat.start rfl) ?_
 intro β w' hs
 exact hs.ofBk.fin [0] ⟨β 0,rfl,rfl⟩
abbrev natsI (M:List Nat):List Int:=M.map fun s:Nat=>(s:Int)
theorem z_ze (n:Nat) (l:Nat) (w:World) (bx:Nat) (d:Dk) (L0:List Kn) (hI:KnI d.to d.rv L0 d.serial) (h50:d.serial<50) (hn:d.serial<=n) (f0 R:Fact) (J Jx:List Int->Fact->Prop) (hJ0:J [] f0) (hJo: ∀pre f,J pre f->f.own=true) (hRo:R.own=false) (hY:Yc Tryz.prog l J Jx R (insK n))
  (hm:Mem w (f0::R::[bkF bx z_aw [ptrD d.b],dkF d])):
  Con Tryz.prog z_aG #[.func (.yield l) #[] #[],.pointer (some ⟨bx,0,none⟩)] w [f0,bkF bx z_aw [ptrD d.b],dkF d]
   (fun _ Fs=> ∃f Fs',Fs=f::Fs'/\((∃xs,J xs f/\xs=natsI (rvS L0)/\Fs'=[dkF d])\/(∃pre,Jx pre f/\Fs'=[dkF d]))):=by
 have g:=z_gw w (Un [f0,bkF bx z_aw [ptrD d.b],dkF d]) [bx]
 have hs0:Sat (z_bD w (Un [f0,bkF bx z_aw [ptrD d.b],dkF d]) [bx]) (Va.of fun _=>bx) 1 [] (f0::R::[bkF bx z_aw [ptrD d.b],dkF d]) w:=by
  refine hm.sat rfl (fun f hf ho k hk=>?_) ⟨Nat.le_refl 1,fun i hi=>by obtain rfl:i=0:=Nat.lt_one_iff.1 hi;rfl⟩
  simp only [List.mem_cons,List.not_mem_nil,or_false] at hf
  rcases hf with rfl | rfl | rfl | rfl
  ·exact ⟨_,by simp,hk⟩
  ·rw [hRo] at ho;cases ho
  ·exact ⟨bkF bx z_aw [ptrD d.b],by simp,hk⟩
  ·exact ⟨dkF d,by simp,hk⟩
 have hs1:=((hs0.toBk 2 rfl 0 Nat.zero_lt_one rfl).unsep 2 rfl)
 refine z_ac (cx:=z_bD w (Un [f0,bkF bx z_aw [ptrD d.b],dkF d]) [bx]) g z_il rfl rfl (β:=Va.of fun _=>bx) [.c (.v (.func (.yield l) #[] #[])),.c (.p 0 0)] 1 _ _ rfl rfl hs1 ?_
 have hml:=hI.rvLen
 refine ⟨.map (some d.m2),fun β w' hs=>z_ai (hs.get 0 rfl) (o:=4) rfl,?_⟩
 refine z_aa [] (fun β w' hs=>z_wz w' (some d.m2)) ?_
 rintro v Fs ⟨B,rfl,rfl⟩
 refine z_oF [0,3] (fun β w' hs=>z_pN w' _ B _ _ _ _ d.rv.length _ (by kernel_rfl) rfl rfl (by omega) (z_qW B d.m2 d.rv) (hs.mem.take (js:=[0,3]) rfl)) ?_
 rintro v Fs ⟨A,c,L,rfl,⟨l0,hp0,hp1⟩,hLl,hris,hA0,rfl⟩
 have hLr:L=natsI (rvS L0):=hI.keysRv hris (hp1.trans hp0)
 refine ⟨_,_,fun β w' hs=>(hs.sep [2,3,1] rfl ⟨rfl,rfl,rfl,trivial⟩).perm [1,2,3,0],?_⟩
 have hL12:L.length<=50:=by omega
 refine z_ag (ι:=List Int×Fact) 1 (fun i=>[(0,.c (.v (.func (.yield l) #[] #[]))),(1,.c (.p 0 0)),(12,.c (.v (.slice A L.length c))),(13,.c (.v (.int .i64 (L.length:Int)))),(14,.c (.v (.int .i64 (i.1.length:Int))))]) (fun _=>[⟨0,z_aw,[.v (ptrD d.b)]⟩]) (fun i=>urowF A L c::i.2::R::[dkF d])
  (fun i=>J i.1 i.2/\i.1=L.take i.1.length/\i.1.length<=L.length) (fun i=>L.length - i.1.length) ([],f0) ⟨hJ0,rfl,Nat.zero_le _⟩ (Ent.same ⟨rfl,rfl,rfl,rfl,rfl,trivial⟩ rfl) g ?_
 rintro ⟨pre,f⟩ ⟨hJ,hpre,hi⟩
 simp only at hJ hpre hi
 have hfo:=hJo _ _ hJ
 simp only
 refine BIf.dec (fun hlt=>?_) (fun hge=>?_)
 ·have hlt0:(pre.length:Int)<L.length:=hlt
  have hkl:pre.length<L.length:=by omega
  obtain ⟨x,hx,_⟩:=at_lt hkl
  obtain ⟨ad,hAd⟩:=hA0 (by omega)
  have hnext:pre++[x]=L.take (pre++[x]).length:=by
   have e:(pre++[x]).length=pre.length+1:=by rw [List.length_append];rfl
   rw [e,List.take_add_one,hx,<-hpre]
   rfl
  have e:(pre++[x]).length=pre.length+1:=by rw [List.length_append];rfl
  refine ⟨ad,pre.length,hAd,rfl,hkl,.int .u64 x,fun β w' hs=>?_,?_⟩
  ·have h:=z_aj (hs.get 0 rfl)
   rw [hAd] at h
   exact Rd.cell1 h (by simp [hx])
  refine z_dF (X:=noF) (x:=x) hY 1 2 rfl hJ hfo rfl hRo (by decide) (fun β=>⟨rfl,rfl,by show pre.length<n;omega⟩) rfl (fun β w _=>⟨trivial,fun k hk=>hk.elim,fun k _ h=>h.elim⟩) ?_ ?_
  ·intro f2 hfo2 hJ2
   refine ⟨((pre.length+1:Nat):Int),by rw [wrap_i64 (by omega) (by omega)];rfl,?_⟩
   refine ⟨(pre++[x],f2),⟨hJ2,hnext,by show (pre++[x]).length<=_;rw [e];omega⟩,by show L.length - (pre++[x]).length<L.length - pre.length;rw [e];omega,?_⟩
   simp only [e]
   exact Ent.mk' ⟨rfl,rfl,rfl,rfl,rfl,trivial⟩ rfl (fun β w' hs=>hs.perm [1,0,2,3])
  ·intro f2 hfo2 hJ2 β w' hs
   exact (hs.keepB (List.nil_sublist _)).fin [0,3] ⟨f2,_,rfl,.inr ⟨_,hJ2,rfl⟩⟩ rfl rfl rfl ⟨hfo2,rfl,trivial⟩
 ·have hge0: ¬(pre.length:Int)<L.length:=hge
  have hpl:pre=L:=by rw [hpre,List.take_of_length_le (by omega)]
  subst hpl
  intro β w' hs
  exact (hs.keepB (List.nil_sublist _)).fin [1,3] ⟨f,_,rfl,.inl ⟨_,hJ,hLr,rfl⟩⟩ rfl rfl rfl ⟨hfo,rfl,trivial⟩
theorem z_vf (bx:Nat) (d:Dk) (L:List Kn) (hI:KnI d.to d.rv L d.serial) (h50:d.serial<50):GivesN z_aG bx z_aw [ptrD d.b] (dkF d) (dkF d) d.serial (fun xs=>xs=natsI (rvS L)):=
 fun l w f0 R J Jx hJ0 hJo hRo hY hm=>z_ze d.serial l w bx d L hI h50 (Nat.le_refl _) f0 R J Jx hJ0 hJo hRo hY hm
theorem z_mK (X:List Kn) (k:Kn) (now:Nat):swpL (X++[k]) now=swpL X now++(if now<k.til then [k] else []):=by
 unfold swpL
 rw [List.filter_append]
 by_cases h:now<k.til
 ·rw [if_pos h,List.filter_cons_of_pos (by simpa using h)];rfl
 ·rw [if_neg h,List.filter_cons_of_neg (by simpa using h)];rfl
theorem z_hJ (X:List Kn) (k:Kn) (now:Nat):swpN (X++[k]) now=swpN X now+(if now<k.til then 0 else if k.rv then 1 else 0):=by
 unfold swpN
 rw [List.filter_append,List.length_append]
 by_cases h:now<k.til
 ·rw [if_pos h,List.filter_cons_of_neg (by simp [h])];rfl
 ·rw [if_neg h]
  cases hk:k.rv
  ·rw [List.filter_cons_of_neg (by simp [hk])];rfl
  ·rw [List.filter_cons_of_pos (by simp [hk,h])];rfl
theorem z_vS (X:List Kn) (now:Nat):swpN X now<=X.length:=List.length_filter_le _ _
structure SwS where
 i:Nat
 t:MLI
 r:MLI
set_option maxHeartbeats 1000000 in
theorem z_yd (w:World) (d:Dk) (L:List Kn) (now:Nat) (hI:KnI d.to d.rv L d.serial) (h50:d.serial<50) (hm:Mem w [dkF d]):
  Con Tryz.prog z_gp #[ptrD d.b,.int .u64 (now:Int)] w [dkF d] fun v Fs=> ∃t r,v= .int .i64 (swpN L now:Nat)/\KnI t r (swpL L now) d.serial/\Fs=[dkF {d with «to» :=t,rv:=r}]:=by
 have g:=z_jc w (Un [dkF d])
 refine z_cx (cx:=z_fg w (Un [dkF d])) g z_ll [.c (.v (ptrD d.b)),.c (.v (.int .u64 (now:Int)))] [] hm ?_
 have hln:=hI.ln
 refine z_ae g ?_
 refine z_ae g ?_
 refine z_ae g ?_
 refine z_ha (fun β w' hs=>hs.unsep 0 rfl) ?_
 refine z_ae g ?_
 refine ⟨.map (some d.m1),fun β w' hs=>z_ai (hs.get 0 rfl) (o:=3) rfl,?_⟩
 refine z_aa [] (fun β w' hs=>z_wE w' (some d.m1)) ?_
 rintro v Fs ⟨B,rfl,rfl⟩
 have hml:=hI.toLen
 refine z_aa [0,2] (fun β w' hs=>z_pN w' _ B _ _ _ _ d.to.length _ (by kernel_rfl) rfl rfl (by omega) (z_rt B d.m1 d.to) (hs.mem.take (js:=[0,2]) rfl)) ?_
 rintro v Fs ⟨A,c,l,rfl,⟨l0,hp0,hp1⟩,hLl,hris,hA0,rfl⟩
 have hl:l=natsI (L.map Kn.s):=hI.keysTo hris (hp1.trans hp0)
 have hll:l.length=L.length:=by rw [hl,List.length_map,List.length_map]
 refine z_dq (ι:=SwS) 0 (fun s=>[(0,.c (.v (ptrD d.b))),(1,.c (.v (.int .u64 (now:Int)))),(5,.c (.v (.int .i64 (swpN (L.take s.i) now:Nat)))),(15,.c (.v (.slice A l.length c))),(16,.c (.v (.int .i64 (l.length:Int)))),(17,.c (.v (.int .i64 (s.i:Int))))]) (fun _=>[]) (fun s=>[urowF A l c,mapIF .u64 d.m1 s.t,bkF d.b z_bz d.vs,mapIF .u64 d.m2 s.r])
  (fun s=>KnI s.t s.r (swpL (L.take s.i) now++L.drop s.i) d.serial/\s.i<=L.length) (fun s=>L.length - s.i) ⟨0,d.to,d.rv⟩ ⟨hI,Nat.zero_le _⟩ (Ent.mk' ⟨rfl,rfl,rfl,rfl,rfl,rfl,trivial⟩ rfl (fun β w' hs=>hs)) ?_
 rintro ⟨i,t,r⟩ ⟨hK,hi⟩
 simp only at hK hi
 refine z_ae g ?_
 refine z_ae g ?_
 refine BIf.dec (fun hlt=>?_) (fun hge=>?_)
 rotate_left
 ·have hge: ¬(i:Int)<(l.length:Int):=hge
  obtain rfl:i=L.length:=by omega
  rw [List.take_length,List.drop_length,List.append_nil] at hK
  refine z_aQ g ?_
  intro β w' hs
  exact ((hs.keepB (List.nil_sublist _)).sep [2,1,3] rfl ⟨rfl,rfl,rfl,trivial⟩).fin [0] ⟨t,r,by rw [List.take_length];rfl,hK,rfl⟩ rfl rfl rfl ⟨rfl,trivial⟩
 have hlt:(i:Int)<(l.length:Int):=hlt
 have hiL:i<L.length:=by omega
 obtain ⟨k,hk,hkm⟩:=at_lt hiL
 have hd:L.drop i=k::L.drop (i+1):=by
  rw [List.drop_eq_getElem_cons hiL]
  congr 1
  exact (List.getElem?_eq_some_iff.1 hk).2
 have ht1:L.take (i+1)=L.take i++[k]:=by rw [List.take_add_one,hk];rfl
 have hN0:=z_vS (L.take i) now
 rw [List.length_take] at hN0
 rw [hd] at hK
 have hlk:=hK.look
 have hgo:=hK.goneAt
 have hll2:l[i]?=some (k.s:Int):=by rw [hl,List.getElem?_map,List.getElem?_map,hk];rfl
 obtain ⟨ad,hAd⟩:=hA0 (by omega)
 refine z_mw (ι:=SwS) (fun s=>KnI s.t s.r (swpL (L.take (i+1)) now++L.drop (i+1)) d.serial/\s.i=swpN (L.take (i+1)) now) 0 (fun s=>[(0,.c (.v (ptrD d.b))),(1,.c (.v (.int .u64 (now:Int)))),(5,.c (.v (.int .i64 (s.i:Nat)))),(15,.c (.v (.slice A l.length c))),(16,.c (.v (.int .i64 (l.length:Int)))),(17,.c (.v (.int .i64 (i:Int))))]) (fun _=>[]) (fun s=>[urowF A l c,mapIF .u64 d.m1 s.t,bkF d.b z_bz d.vs,mapIF .u64 d.m2 s.r]) ?_ ?_
 ·rintro ⟨n2,t2,r2⟩ ⟨hK2,hn2⟩
  simp only at hK2 hn2
  subst hn2
  refine z_aQ g ?_
  refine ⟨((i+1:Nat):Int),by rw [wrap_i64 (by omega) (by omega)];rfl,?_⟩
  exact ⟨⟨i+1,t2,r2⟩,⟨hK2,hiL⟩,by show L.length - (i+1)<L.length - i;omega,Ent.mk' ⟨rfl,rfl,rfl,rfl,rfl,rfl,trivial⟩ rfl (fun β w' hs=>hs)⟩
 refine z_b3 ?_
 refine z_ae g ?_
 refine ⟨ad,i,hAd,rfl,by omega,.int .u64 (k.s:Int),fun β w' hs=>?_,?_⟩
 ·have h:=z_aj (hs.get 0 rfl)
  rw [hAd] at h
  exact Rd.cell1 h (by simp [hll2])
 refine z_ae g ?_
 refine ⟨.map (some d.m1),fun β w' hs=>z_ai (hs.get 2 rfl) (o:=3) rfl,?_⟩
 refine ⟨rfl,.int .u64 0,zeroU64,t,ilook t (k.s:Int),fun β w' hs=>hs.get 1 rfl,rfl,?_⟩
 rw [hlk]
 refine BIf.dec (fun hlt2=>?_) (fun hge2=>?_)
 ·have hlt2:(now:Int)<(k.til:Int):=hlt2
  exact EntX.of ⟨swpN (L.take i) now,t,r⟩ ⟨by
   show KnI t r (swpL (L.take (i+1)) now++L.drop (i+1)) d.serial
   rw [ht1,z_mK,if_pos (by omega),List.append_assoc]
   exact hK,by
   show swpN (L.take i) now=_
   rw [ht1,z_hJ,if_pos (by omega)];rfl⟩ (Ent.same ⟨rfl,rfl,rfl,rfl,rfl,rfl,trivial⟩ rfl)
 have hge2: ¬(now:Int)<(k.til:Int):=hge2
 have hge3: ¬now<k.til:=by omega
 refine z_aM (ι:=Nat) g (fun m=>m=swpN (L.take (i+1)) now) 0 (fun m=>[(0,.c (.v (ptrD d.b))),(1,.c (.v (.int .u64 (now:Int)))),(5,.c (.v (.int .i64 (m:Nat)))),(15,.c (.v (.slice A l.length c))),(16,.c (.v (.int .i64 (l.length:Int)))),(17,.c (.v (.int .i64 (i:Int)))),(7,.c (.v (.int .u64 (k.s:Int))))]) (fun _=>[]) (fun _=>[urowF A l c,mapIF .u64 d.m1 t,bkF d.b z_bz d.vs,mapIF .u64 d.m2 r]) ?_ ?_
 rotate_left
 ·refine ⟨.map (some d.m2),fun β w' hs=>z_ai (hs.get 2 rfl) (o:=4) rfl,?_⟩
  refine ⟨rfl,.bool false,zeroBoo,r,ilook r (k.s:Int),fun β w' hs=>hs.get 3 rfl,rfl,?_⟩
  rw [hgo]
  cases hrv:k.rv with
  | true=>
   refine ⟨((swpN (L.take i) now+1:Nat):Int),by rw [wrap_i64 (by dsimp only;omega) (by dsimp only;omega)];rfl,?_⟩
   exact EntX.of (swpN (L.take i) now+1) (by show _=_;rw [ht1,z_hJ,if_neg hge3,hrv];rfl) (Ent.same ⟨rfl,rfl,rfl,rfl,rfl,rfl,rfl,trivial⟩ rfl)
  | false=>
   exact EntX.of (swpN (L.take i) now) (by show _=_;rw [ht1,z_hJ,if_neg hge3,hrv];rfl) (Ent.same ⟨rfl,rfl,rfl,rfl,rfl,rfl,rfl,trivial⟩ rfl)
 intro m hm2
 refine z_ae g ?_
 refine ⟨.map (some d.m1),fun β w' hs=>z_ai (hs.get 2 rfl) (o:=3) rfl,?_⟩
 refine ⟨[],[urowF A l c,mapIF .u64 d.m1 (idel t (k.s:Int)),bkF d.b z_bz d.vs,mapIF .u64 d.m2 r],.c (.v (.tuple #[])),fun β w' ty hs=>hs.mapDelI g 1 rfl (t:=z_av) (tk:=z_aA) (k.s:Int) ty _,trivial,?_⟩
 refine z_aQ g ?_
 refine ⟨.map (some d.m2),fun β w' hs=>z_ai (hs.get 2 rfl) (o:=4) rfl,?_⟩
 refine ⟨[],[urowF A l c,mapIF .u64 d.m1 (idel t (k.s:Int)),bkF d.b z_bz d.vs,mapIF .u64 d.m2 (idel r (k.s:Int))],.c (.v (.tuple #[])),fun β w' ty hs=>hs.mapDelI g 3 rfl (t:=z_az) (tk:=z_aA) (k.s:Int) ty _,trivial,?_⟩
 exact EntX.of ⟨m,idel t (k.s:Int),idel r (k.s:Int)⟩ ⟨by
  show KnI _ _ (swpL (L.take (i+1)) now++L.drop (i+1)) d.serial
  rw [ht1,z_mK,if_neg hge3,List.append_nil]
  exact hK.del,hm2⟩ (Ent.same ⟨rfl,rfl,rfl,rfl,rfl,rfl,trivial⟩ rfl)
def Kn.cells (k:Kn):List Value:=[.int .u64 (k.s:Int),.int .u64 (k.til:Int),.bool k.rv]
structure RD where
 b:Nat
 rb:Nat
 life:Nat
 serial:Nat
 A:Option Addr
 c:Nat
 L:List Kn
def RD.vs (q:RD):List Value:=[ptrR q.rb,.int .u64 (q.life:Int),.int .u64 (q.serial:Int),.slice q.A q.L.length q.c]
abbrev kF (A:Option Addr) (L:List Kn) (c:Nat):Fact:=rowF z_aN 3 (.slice A L.length c) L.length (L.flatMap Kn.cells)
def rdkF (q:RD):Fact:=sepF [bkF q.b z_aK q.vs,kF q.A q.L q.c]
theorem z_hx {q:RD} {w:World} (h:(rdkF q).p w):(bkF q.b z_aK q.vs).p w:=h.1 _ (by simp)
theorem z_k7 {q:RD} {w:World} (h:(rdkF q).p w):Rd 3 q.A q.L.length (q.L.flatMap Kn.cells) w:=z_aj (h.1 (kF q.A q.L q.c) (by simp))
theorem kn_at {w:World} {ad:Addr} {L:List Kn} (h:Rd 3 (some ad) L.length (L.flatMap Kn.cells) w) {i:Nat} {k:Kn} (hk:L[i]?=some k): ∀j u,k.cells[j]?=some u->w.cell? ((ad.add (i*3)).add j)=some u:=by
 obtain ⟨hil,hie⟩:=List.getElem?_eq_some_iff.1 hk
 have h2:=Rd.elem (f:=Kn.cells) (fun _=>rfl) h rfl hil
 rw [hie] at h2
 exact h2
theorem z_nB (L:List Kn): ∀u∈L.flatMap Kn.cells,u.oneCell'=true:=fun u hu=>by
 obtain ⟨k,_,hk⟩:=List.mem_flatMap.1 hu
 simp only [Kn.cells,List.mem_cons,List.not_mem_nil,or_false] at hk
 rcases hk with rfl | rfl | rfl<;>rfl
theorem z_y9 (L:List Kn):(L.flatMap Kn.cells).length=L.length*3:=by
 induction L with
 | nil=>rfl
 | cons k L ih=>rw [List.flatMap_cons,List.length_append,ih,List.length_cons];show 3+_=_;omega
theorem z_y3 (X Y:List Kn) (k:Kn):putAll ((X++k::Y).flatMap Kn.cells) (X.length*3+2) [Value.bool true]=(X++⟨k.s,k.til,true⟩::Y).flatMap Kn.cells:=by
 have hl:(X.flatMap Kn.cells++[Value.int .u64 (k.s:Int),Value.int .u64 (k.til:Int)]).length=X.length*3+2:=by
  rw [List.length_append,z_y9];rfl
 have e1:(X++k::Y).flatMap Kn.cells=(X.flatMap Kn.cells++[Value.int .u64 (k.s:Int),Value.int .u64 (k.til:Int)])++Value.bool k.rv::Y.flatMap Kn.cells:=by simp [Kn.cells]
 rw [e1,<-hl,z_hC _ _ _ (by simp)]
 simp [Kn.cells]
theorem z_yQ {cx:Cx} {n:Nat} {env:Env} {H:List Bk} {F:List Fact} {c:Code} {Q:Exit->KT} {p:Prop} (h: ∀β w,Sat cx β n H F w->p) (k:p->Tri cx c Q n env H F):Tri cx c Q n env H F:=
 ⟨fun β a w hi=>(k (h β w hi.sat)).run β a w hi⟩
theorem z_wx {e size n c:Nat} {A:Option Addr} {xs:List Value} {w:World} (h:(rowF e size (.slice A n c) n xs).p w) (h0:0<n): ∃g0,A=some ⟨g0,0,none⟩:=by
 have ho:w.ownsRow 0 e size (.slice A n c) n xs:=h
 rcases ho.2 with ⟨_,h1⟩ | ⟨g0,cap,cur,hv,_⟩
 ·exact absurd h1 (by omega)
 ·injection hv with q _ _
  exact ⟨g0,q⟩
def FndV (L:List Kn) (s:Nat) (v:Value):Prop:=(∃X k Y,L=X++k::Y/\k.s=s/\(∀x∈X,x.s≠s)/\v= .int .i64 (X.length:Nat))\/((∀x∈L,x.s≠s)/\v= .int .i64 (-1))
theorem z_ru (w:World) (q:RD) (s:Nat) (hL:q.L.length<=1000) (hm:Mem w [rdkF q]):Con Tryz.prog z_fR #[.pointer (some ⟨q.b,0,none⟩),.int .u64 (s:Int)] w [rdkF q] fun v Fs=>FndV q.L s v/\Fs=[rdkF q]:=by
 have g:=z_i5 w (Un [rdkF q])
 refine z_cx (cx:=z_fn w (Un [rdkF q])) g z_lt [.c (.v (.pointer (some ⟨q.b,0,none⟩))),.c (.v (.int .u64 (s:Int)))] [] hm ?_
 refine z_ae g ?_
 refine z_ae g ?_
 refine ⟨.slice q.A q.L.length q.c,fun β w' hs=>z_ai (z_hx (hs.get 0 rfl)) (o:=3) rfl,?_⟩
 refine z_dq (ι:=Nat) 0 (fun i=>[(1,.c (.v (.int .u64 (s:Int)))),(10,.c (.v (.slice q.A q.L.length q.c))),(11,.c (.v (.int .i64 (q.L.length:Int)))),(12,.c (.v (.int .i64 (i:Int))))]) (fun _=>[]) (fun _=>[rdkF q])
  (fun i=>i<=q.L.length/\ ∀x∈q.L.take i,x.s≠s) (fun i=>q.L.length - i) 0 ⟨Nat.zero_le _,fun x hx=>by simp at hx⟩ (Ent.mk' ⟨rfl,rfl,rfl,rfl,trivial⟩ rfl (fun β w' hs=>hs)) ?_
 rintro i ⟨hi,hno⟩
 refine z_ae g ?_
 refine z_ae g ?_
 refine BIf.dec (fun hlt=>?_) (fun hge=>?_)
 rotate_left
 ·have hge: ¬(i:Int)<(q.L.length:Int):=hge
  obtain rfl:i=q.L.length:=by omega
  rw [List.take_length] at hno
  refine z_aQ g ?_
  exact fun β w' hs=>(hs.keepB (List.nil_sublist _)).fin [0] ⟨Or.inr ⟨hno,rfl⟩,rfl⟩ rfl rfl rfl ⟨rfl,trivial⟩
 have hlt:(i:Int)<(q.L.length:Int):=hlt
 have hiL:i<q.L.length:=by omega
 obtain ⟨k,hk,hkm⟩:=at_lt hiL
 have hd:q.L.drop i=k::q.L.drop (i+1):=by
  rw [List.drop_eq_getElem_cons hiL]
  congr 1
  exact (List.getElem?_eq_some_iff.1 hk).2
 have ht1:q.L.take (i+1)=q.L.take i++[k]:=by rw [List.take_add_one,hk];rfl
 obtain ⟨ad,hA,_⟩:=(z_k7 (hm.fact (rdkF q) List.mem_cons_self)).2 (by omega)
 refine z_aQ g ?_
 refine ⟨ad,i,hA,rfl,hiL,k.cells,rfl,fun β w' hs=>kn_at (by have h:=z_k7 (hs.get 0 rfl);rw [hA] at h;exact h) hk,?_⟩
 refine BIf.dec (fun he=>?_) (fun hne=>?_)
 ·have he:k.s=s:=by have h:(k.s:Int)=(s:Int):=he;omega
  exact fun β w' hs=>(hs.keepB (List.nil_sublist _)).fin [0] ⟨Or.inl ⟨q.L.take i,k,q.L.drop (i+1),by rw [<-hd,List.take_append_drop],he,hno,by rw [List.length_take,Nat.min_eq_left hi];rfl⟩,rfl⟩ rfl rfl rfl ⟨rfl,trivial⟩
 have hne: ¬k.s=s:=by have h: ¬(k.s:Int)=(s:Int):=hne;omega
 refine ⟨((i+1:Nat):Int),by rw [wrap_i64 (by omega) (by omega)];rfl,?_⟩
 exact ⟨i+1,⟨hiL,fun x hx=>by
  rw [ht1] at hx
  rcases List.mem_append.1 hx with hx | hx
  ·exact hno x hx
  ·obtain rfl:=List.mem_singleton.1 hx;exact hne⟩,by omega,Ent.mk' ⟨rfl,rfl,rfl,rfl,trivial⟩ rfl (fun β w' hs=>(hs.keepB (List.nil_sublist _)).lower)⟩
theorem z_sy (w:World) (q:RD) (s:Nat) (hL:q.L.length<=1000) (hm:Mem w [rdkF q]):Con Tryz.prog z_eN #[.pointer (some ⟨q.b,0,none⟩),.int .u64 (s:Int)] w [rdkF q] fun v Fs=>
  ((∀x∈q.L,x.s≠s)/\v= .int .i64 6/\Fs=[rdkF q])\/ ∃X k Y,q.L=X++k::Y/\k.s=s/\((k.rv=true/\v= .int .i64 10/\Fs=[rdkF q])\/(k.rv=false/\v= .int .i64 0/\ ∃A c,Fs=[rdkF {q with A:=A,c:=c,L:=X++⟨k.s,k.til,true⟩::Y}])):=by
 have hml:=maxLen_eq
 have g:=z_hM w (Un [rdkF q])
 refine z_cx (cx:=z_d6 w (Un [rdkF q])) g z_jY [.c (.v (.pointer (some ⟨q.b,0,none⟩))),.c (.v (.int .u64 (s:Int)))] [] hm ?_
 refine z_ae g ?_
 refine z_ae g ?_
 refine z_aa [0] (fun β w' hs=>z_ru w' q s hL (hs.mem.take (js:=[0]) rfl)) ?_
 rintro v Fs ⟨⟨X,k,Y,hq,hk,hX,rfl⟩ | ⟨hno,rfl⟩,rfl⟩
 rotate_left
 ·refine z_ae g ?_
  exact fun β w' hs=>(hs.keepB (List.nil_sublist _)).fin [0] (Or.inl ⟨hno,rfl,rfl⟩) rfl rfl rfl ⟨rfl,trivial⟩
 have hXl:X.length<q.L.length:=by rw [hq,List.length_append,List.length_cons];omega
 have hkx:q.L[X.length]?=some k:=by rw [hq,List.getElem?_append_right (Nat.le_refl _),Nat.sub_self];rfl
 obtain ⟨ad,hA,_⟩:=(z_k7 (hm.fact (rdkF q) List.mem_cons_self)).2 (by omega)
 refine z_ae g ?_
 refine z_ae g ?_
 refine ⟨.slice q.A q.L.length q.c,fun β w' hs=>z_ai (z_hx (hs.get 0 rfl)) (o:=3) rfl,?_⟩
 refine ⟨ad,X.length,hA,rfl,hXl,?_⟩
 refine ⟨.bool k.rv,fun β w' hs=>kn_at (by have h:=z_k7 (hs.get 0 rfl);rw [hA] at h;exact h) hkx 2 _ rfl,?_⟩
 cases hrv:k.rv with
 | true=>exact fun β w' hs=>(hs.keepB (List.nil_sublist _)).fin [0] (Or.inr ⟨X,k,Y,hq,hk,Or.inl ⟨hrv,rfl,rfl⟩⟩) rfl rfl rfl ⟨rfl,trivial⟩
 | false=>
  refine z_ha (fun β w' hs=>hs.unsep 0 rfl) ?_
  refine z_ae g ?_
  intro b1
  refine ⟨_,fun β w' hs=>z_ai (hs.get 1 rfl) (o:=3) rfl,?_⟩
  refine ⟨0,0,q.L.length,[],q.L.flatMap Kn.cells,q.L.flatMap Kn.cells,rfl,fun β w' hs=>z_aj (hs.get 2 rfl),z_nB q.L,Nat.zero_add _,rfl,by omega,by show q.L.length*24<=_;omega,?_⟩
  intro A' c' p1 p2 p3
  refine ⟨_,fun β w' hs=>hs.bkSet 1 (o:=3) (us:=[.slice A' q.L.length c']) rfl (by show 4<=4;decide) (z_a9 rfl),?_⟩
  refine z_yQ (p:= ∃g0,A'=some ⟨g0,0,none⟩) (fun β w' hs=>z_wx (hs.get 0 rfl) (by omega)) ?_
  rintro ⟨g0,rfl⟩
  refine z_ae g ?_
  refine ⟨_,fun β w' hs=>z_ai (hs.get 1 rfl) (o:=3) rfl,?_⟩
  refine ⟨⟨g0,0,none⟩,X.length,rfl,rfl,hXl,?_⟩
  have eA:(((⟨g0,0,none⟩:Addr).add (X.length*3)).add 2)=(⟨g0,0,none⟩:Addr).add (X.length*3+2):=z_mu _ _ _
  refine ⟨[rowF z_aN 3 (.slice (some ⟨g0,0,none⟩) q.L.length c') q.L.length (putAll (q.L.flatMap Kn.cells) (X.length*3+2) [.bool true]),bkF q.b z_aK (putAll q.vs 3 [.slice (some ⟨g0,0,none⟩) q.L.length c'])],fun β w' hs=>by
   have h:=Sat.rowSet (hs.perm [0,1]) (j:=0) (o:=X.length*3+2) (us:=[.bool true]) rfl (by show X.length*3+2+1<=q.L.length*3;omega) (fun u hu=>by obtain rfl:=List.mem_singleton.1 hu;rfl)
   rw [<-eA] at h
   exact h,?_⟩
  refine z_aQ g ?_
  exact fun β w' hs=>((hs.keepB (List.nil_sublist _)).sep [1,0] rfl ⟨rfl,rfl,trivial⟩).fin [0] (Or.inr ⟨X,k,Y,hq,hk,Or.inr ⟨hrv,rfl,some ⟨g0,0,none⟩,c',by
   have e:q.L.length=(X++⟨k.s,k.til,true⟩::Y).length:=by rw [hq,List.length_append,List.length_append];rfl
   show [sepF [bkF q.b z_aK [ptrR q.rb,.int .u64 (q.life:Int),.int .u64 (q.serial:Int),.slice (some ⟨g0,0,none⟩) q.L.length c'],rowF z_aN 3 (.slice (some ⟨g0,0,none⟩) q.L.length c') q.L.length (putAll (q.L.flatMap Kn.cells) (X.length*3+2) [.bool true])]]=_
   rw [e]
   conv=>lhs;rw [hq,z_y3]
   rfl⟩⟩) rfl rfl rfl ⟨rfl,trivial⟩
structure RwS where
 n:Nat
 A:Option Addr
 c:Nat
set_option maxHeartbeats 1000000 in
theorem z_ub (w:World) (q:RD) (now:Nat) (hL:q.L.length<=1000) (hm:Mem w [rdkF q]):Con Tryz.prog z_fd #[.pointer (some ⟨q.b,0,none⟩),.int .u64 (now:Int)] w [rdkF q] fun v Fs=>v= .int .i64 (swpN q.L now:Nat)/\ ∃A c,Fs=[rdkF {q with A:=A,c:=c,L:=swpL q.L now}]:=by
 have hml:=maxLen_eq
 have g:=z_h7 w (Un [rdkF q])
 refine z_cx (cx:=z_eJ w (Un [rdkF q])) g z_kZ [.c (.v (.pointer (some ⟨q.b,0,none⟩))),.c (.v (.int .u64 (now:Int)))] [] hm ?_
 refine z_ae g ?_
 refine z_ae g ?_
 refine z_ae g ?_
 refine z_ha (F':=[rdkF q,kF none [] 0]) (fun β w' hs=>(hs.nilRow z_aN 3).perm [1,0]) ?_
 refine z_ae g ?_
 refine ⟨.slice q.A q.L.length q.c,fun β w' hs=>z_ai (z_hx (hs.get 0 rfl)) (o:=3) rfl,?_⟩
 refine z_dq (ι:=Nat×Option Addr×Nat) 0 (fun s=>[(0,.c (.v (.pointer (some ⟨q.b,0,none⟩)))),(1,.c (.v (.int .u64 (now:Int)))),(5,.c (.v (.slice s.2.1 (swpL (q.L.take s.1) now).length s.2.2))),(6,.c (.v (.int .i64 (swpN (q.L.take s.1) now:Nat)))),(12,.c (.v (.slice q.A q.L.length q.c))),(13,.c (.v (.int .i64 (q.L.length:Int)))),(14,.c (.v (.int .i64 (s.1:Int))))]) (fun _=>[]) (fun s=>[rdkF q,kF s.2.1 (swpL (q.L.take s.1) now) s.2.2])
  (fun s=>s.1<=q.L.length) (fun s=>q.L.length - s.1) (0,none,0) (Nat.zero_le _) (Ent.mk' ⟨rfl,rfl,rfl,rfl,rfl,rfl,rfl,trivial⟩ rfl (fun β w' hs=>hs)) ?_
 rintro ⟨i,A,c⟩ hi
 simp only at hi
 refine z_ae g ?_
 refine z_ae g ?_
 refine BIf.dec (fun hlt=>?_) (fun hge=>?_)
 rotate_left
 ·have hge: ¬(i:Int)<(q.L.length:Int):=hge
  obtain rfl:i=q.L.length:=by omega
  have e0:q.L.take q.L.length=q.L:=List.take_length
  refine z_ha (fun β w' hs=>hs.unsep 0 rfl) ?_
  refine z_ae g ?_
  refine ⟨_,fun β w' hs=>hs.bkSet 0 (o:=3) (us:=[.slice A (swpL (q.L.take q.L.length) now).length c]) rfl (by show 4<=4;decide) (z_a9 rfl),?_⟩
  refine z_aQ g ?_
  exact fun β w' hs=>(((hs.keepB (List.nil_sublist _))).sep [0,2] rfl ⟨rfl,rfl,trivial⟩).fin [0] ⟨by rw [e0];rfl,A,c,by
   show [sepF [bkF q.b z_aK [ptrR q.rb,.int .u64 (q.life:Int),.int .u64 (q.serial:Int),.slice A (swpL (q.L.take q.L.length) now).length c],kF A (swpL (q.L.take q.L.length) now) c]]=_
   rw [e0]
   rfl⟩ rfl rfl rfl ⟨rfl,trivial⟩
 have hlt:(i:Int)<(q.L.length:Int):=hlt
 have hiL:i<q.L.length:=by omega
 obtain ⟨k,hk,hkm⟩:=at_lt hiL
 have ht1:q.L.take (i+1)=q.L.take i++[k]:=by rw [List.take_add_one,hk];rfl
 obtain ⟨ad,hA,_⟩:=(z_k7 (hm.fact (rdkF q) List.mem_cons_self)).2 (by omega)
 have hN0:=z_vS (q.L.take i) now
 have hS0:(swpL (q.L.take i) now).length<=i:=Nat.le_trans (List.length_filter_le _ _) (by rw [List.length_take];omega)
 rw [List.length_take] at hN0
 refine z_mw (ι:=RwS) (fun s=>s.n=swpN (q.L.take (i+1)) now) 0 (fun s=>[(0,.c (.v (.pointer (some ⟨q.b,0,none⟩)))),(1,.c (.v (.int .u64 (now:Int)))),(5,.c (.v (.slice s.A (swpL (q.L.take (i+1)) now).length s.c))),(6,.c (.v (.int .i64 (s.n:Nat)))),(12,.c (.v (.slice q.A q.L.length q.c))),(13,.c (.v (.int .i64 (q.L.length:Int)))),(14,.c (.v (.int .i64 (i:Int))))]) (fun _=>[]) (fun s=>[rdkF q,kF s.A (swpL (q.L.take (i+1)) now) s.c]) ?_ ?_
 ·rintro ⟨n2,A2,c2⟩ hn2
  simp only at hn2
  subst hn2
  refine z_aQ g ?_
  refine ⟨((i+1:Nat):Int),by rw [wrap_i64 (by omega) (by omega)];rfl,?_⟩
  exact ⟨(i+1,A2,c2),hiL,by show q.L.length - (i+1)<q.L.length - i;omega,Ent.mk' ⟨rfl,rfl,rfl,rfl,rfl,rfl,rfl,trivial⟩ rfl (fun β w' hs=>hs)⟩
 refine z_b3 ?_
 refine z_ae g ?_
 refine ⟨ad,i,hA,rfl,hiL,k.cells,rfl,fun β w' hs=>kn_at (by have h:=z_k7 (hs.get 0 rfl);rw [hA] at h;exact h) hk,?_⟩
 refine z_aQ g ?_
 refine BIf.dec (fun hlt2=>?_) (fun hge2=>?_)
 ·have hlt2:now<k.til:=by have h:(now:Int)<(k.til:Int):=hlt2;omega
  intro b1
  have e1:swpL (q.L.take (i+1)) now=swpL (q.L.take i) now++[k]:=by rw [ht1,z_mK,if_pos hlt2]
  refine ⟨2,(swpL (q.L.take i) now).length,(swpL (q.L.take i) now).length+1,(swpL (q.L.take i) now).flatMap Kn.cells,k.cells,(swpL (q.L.take i) now++[k]).flatMap Kn.cells,rfl,fun β w' hs=>z_aj (hs.get 0 rfl),(fun u hu=>z_nB [k] u (by simpa using hu)),rfl,by simp,by omega,by show ((swpL (q.L.take i) now).length+1)*24<=_;omega,?_⟩
  intro A' c' p1 p2 p3
  refine EntX.of ⟨swpN (q.L.take i) now,A',c'⟩ (by show _=_;rw [ht1,z_hJ,if_pos hlt2];rfl) (Ent.mk' ⟨rfl,rfl,?_,rfl,rfl,rfl,rfl,trivial⟩ rfl (fun β w' hs=>?_))
  ·rw [e1,List.length_append];rfl
  ·have e2:(swpL (q.L.take i) now++[k]).length=(swpL (q.L.take i) now).length+1:=by rw [List.length_append];rfl
   show Sat _ _ _ _ [rdkF q,kF A' (swpL (q.L.take (i+1)) now) c'] _
   rw [e1]
   show Sat _ _ _ _ [rdkF q,rowF z_aN 3 (.slice A' (swpL (q.L.take i) now++[k]).length c') (swpL (q.L.take i) now++[k]).length _] _
   rw [e2]
   exact (((hs.keepB (List.nil_sublist _)).lower).perm [1,2])
 have hge3: ¬now<k.til:=by have h: ¬(now:Int)<(k.til:Int):=hge2;omega
 have e1:swpL (q.L.take (i+1)) now=swpL (q.L.take i) now:=by rw [ht1,z_mK,if_neg hge3,List.append_nil]
 refine BIf.mk (fun hrv=>?_) (fun hrv=>?_)
 ·refine ⟨((swpN (q.L.take i) now+1:Nat):Int),by rw [wrap_i64 (by dsimp only;omega) (by dsimp only;omega)];rfl,?_⟩
  exact EntX.of ⟨swpN (q.L.take i) now+1,A,c⟩ (by show _=_;rw [ht1,z_hJ,if_neg hge3,hrv];rfl) (Ent.mk' ⟨rfl,rfl,by rw [e1];rfl,rfl,rfl,rfl,rfl,trivial⟩ rfl (fun β w' hs=>by rw [e1];exact ((hs.keepB (List.nil_sublist _)).lower)))
 ·exact EntX.of ⟨swpN (q.L.take i) now,A,c⟩ (by show _=_;rw [ht1,z_hJ,if_neg hge3,hrv];rfl) (Ent.mk' ⟨rfl,rfl,by rw [e1];rfl,rfl,rfl,rfl,rfl,trivial⟩ rfl (fun β w' hs=>by rw [e1];exact ((hs.keepB (List.nil_sublist _)).lower)))
theorem z_nA (w:World) (q:RD) (hL:q.L.length<=1000) (hm:Mem w [rdkF q]):Con Tryz.prog z_ee #[.pointer (some ⟨q.b,0,none⟩)] w [rdkF q] fun v Fs=> ∃A c,v= .slice A (natsI (rvS q.L)).length c/\Fs=[rdkF q,urowF A (natsI (rvS q.L)) c]:=by
 have hml:=maxLen_eq
 have g:=z_g3 w (Un [rdkF q])
 refine z_cx (cx:=z_dJ w (Un [rdkF q])) g z_jb [.c (.v (.pointer (some ⟨q.b,0,none⟩)))] [] hm ?_
 refine z_ae g ?_
 refine z_ae g ?_
 refine z_ha (F':=[rdkF q,urowF none [] 0]) (fun β w' hs=>(hs.nilRow z_aA 1).perm [1,0]) ?_
 refine z_ae g ?_
 refine ⟨.slice q.A q.L.length q.c,fun β w' hs=>z_ai (z_hx (hs.get 0 rfl)) (o:=3) rfl,?_⟩
 refine z_dq (ι:=Nat×Option Addr×Nat) 0 (fun s=>[(3,.c (.v (.slice s.2.1 (natsI (rvS (q.L.take s.1))).length s.2.2))),(9,.c (.v (.slice q.A q.L.length q.c))),(10,.c (.v (.int .i64 (q.L.length:Int)))),(11,.c (.v (.int .i64 (s.1:Int))))]) (fun _=>[]) (fun s=>[rdkF q,urowF s.2.1 (natsI (rvS (q.L.take s.1))) s.2.2])
  (fun s=>s.1<=q.L.length) (fun s=>q.L.length - s.1) (0,none,0) (Nat.zero_le _) (Ent.mk' ⟨rfl,rfl,rfl,rfl,trivial⟩ rfl (fun β w' hs=>hs)) ?_
 rintro ⟨i,A,c⟩ hi
 simp only at hi
 refine z_ae g ?_
 refine z_ae g ?_
 refine BIf.dec (fun hlt=>?_) (fun hge=>?_)
 rotate_left
 ·have hge: ¬(i:Int)<(q.L.length:Int):=hge
  obtain rfl:i=q.L.length:=by omega
  have e0:q.L.take q.L.length=q.L:=List.take_length
  refine z_aQ g ?_
  exact fun β w' hs=>(hs.keepB (List.nil_sublist _)).fin [0,1] ⟨A,c,by rw [e0];rfl,by show [rdkF q,urowF A (natsI (rvS (q.L.take q.L.length))) c]=_;rw [e0]⟩ rfl rfl rfl ⟨rfl,rfl,trivial⟩
 have hlt:(i:Int)<(q.L.length:Int):=hlt
 have hiL:i<q.L.length:=by omega
 obtain ⟨k,hk,hkm⟩:=at_lt hiL
 have ht1:q.L.take (i+1)=q.L.take i++[k]:=by rw [List.take_add_one,hk];rfl
 obtain ⟨ad,hA,_⟩:=(z_k7 (hm.fact (rdkF q) List.mem_cons_self)).2 (by omega)
 have hS0:(natsI (rvS (q.L.take i))).length<=i:=by rw [List.length_map];exact Nat.le_trans z_qe (by rw [List.length_take];omega)
 refine z_mw (ι:=Option Addr×Nat) (fun s=>True) 0 (fun s=>[(3,.c (.v (.slice s.1 (natsI (rvS (q.L.take (i+1)))).length s.2))),(9,.c (.v (.slice q.A q.L.length q.c))),(10,.c (.v (.int .i64 (q.L.length:Int)))),(11,.c (.v (.int .i64 (i:Int))))]) (fun _=>[]) (fun s=>[rdkF q,urowF s.1 (natsI (rvS (q.L.take (i+1)))) s.2]) ?_ ?_
 ·rintro ⟨A2,c2⟩ -
  refine z_aQ g ?_
  refine ⟨((i+1:Nat):Int),by rw [wrap_i64 (by omega) (by omega)];rfl,?_⟩
  exact ⟨(i+1,A2,c2),hiL,by show q.L.length - (i+1)<q.L.length - i;omega,Ent.mk' ⟨rfl,rfl,rfl,rfl,trivial⟩ rfl (fun β w' hs=>hs)⟩
 refine z_b3 ?_
 refine z_ae g ?_
 refine ⟨ad,i,hA,rfl,hiL,k.cells,rfl,fun β w' hs=>kn_at (by have h:=z_k7 (hs.get 0 rfl);rw [hA] at h;exact h) hk,?_⟩
 refine z_aQ g ?_
 refine BIf.mk (fun hrv=>?_) (fun hrv=>?_)
 ·intro b1
  obtain ⟨M,hM⟩: ∃M,rvS (q.L.take i)=M:=⟨_,rfl⟩
  have e1:rvS (q.L.take (i+1))=M++[k.s]:=by rw [ht1,z_lq,z_mx,if_pos hrv,hM];rfl
  have e2:(natsI (M++[k.s])).length=(natsI M).length+1:=by simp [natsI]
  rw [hM] at hS0
  refine ⟨2,(natsI M).length,(natsI M).length+1,(natsI M).map (Value.int .u64),[.int .u64 (k.s:Int)],(natsI (M++[k.s])).map (Value.int .u64),by rw [<-hM];rfl,fun β w' hs=>z_aj (hs.get 0 rfl),(fun u hu=>by obtain rfl:=List.mem_singleton.1 hu;rfl),rfl,by simp [natsI],by omega,by show ((natsI M).length+1)*8<=_;omega,?_⟩
  intro A' c' p1 p2 p3
  refine EntX.of (A',c') trivial (Ent.mk' ⟨?_,rfl,rfl,rfl,trivial⟩ rfl (fun β w' hs=>?_))
  ·rw [e1,e2];rfl
  ·show Sat _ _ _ _ [rdkF q,urowF A' (natsI (rvS (q.L.take (i+1)))) c'] _
   rw [e1]
   show Sat _ _ _ _ [rdkF q,rowF z_aA 1 (.slice A' (natsI (M++[k.s])).length c') (natsI (M++[k.s])).length _] _
   rw [e2]
   exact (((hs.keepB (List.nil_sublist _)).lower).perm [1,2])
 ·have e1:rvS (q.L.take (i+1))=rvS (q.L.take i):=by rw [ht1,z_lq,z_mx,if_neg (by rw [hrv];decide)];show _++[]=_;rw [List.append_nil]
  exact EntX.of (A,c) trivial (Ent.mk' ⟨by rw [e1];rfl,rfl,rfl,rfl,trivial⟩ rfl (fun β w' hs=>by rw [e1];exact ((hs.keepB (List.nil_sublist _)).lower)))
end Go.Proofs.YtfomhhkoamapmaaGreatDoor.Sx
namespace Go.Proofs.YtfomhhkoamapmaaGreatDoor.Sx
open Go
def wrF (b:Nat) (l:List UInt8):Fact where
 own:=true
 D:=fun g=>g=b
 p:=fun w=> ∃(cs:Array Value) (e:TypeId) (z:Nat×Nat),w.heap[b]?=some (.cells cs e z)/\l.length<=z.1/\ ∀(j:Nat) (u:Value),(l.map byte)[j]?=some u->cs[j]?=some u
 st:=fun w w' hs h=>by rw [hs b rfl];exact h
theorem z_uK {w:World} {b:Nat} {cs:Array Value} {e:TypeId} {z:Nat×Nat} (hb:w.heap[b]?=some (.cells cs e z)) (j:Nat):w.cell? ⟨b,j,none⟩=cs[j]?:=by
 simp [World.cell?,hb]
theorem wr_rd {w:World} {b:Nat} {l:List UInt8} (h:(wrF b l).p w):Rd 1 (some ⟨b,0,none⟩) l.length (l.map byte) w:=by
 obtain ⟨cs,e,z,hb,_,hc⟩:=h
 refine ⟨by simp,fun _=>⟨_,rfl,fun j u hj=>?_⟩⟩
 rw [z_bk,Nat.zero_add,z_uK hb]
 exact hc j u hj
section
variable {cx:Cx} {β:Va} {n:Nat} {env:Env} {H:List Bk} {F:List Fact} {a:Act} {w w':World}
theorem Sat.wrSet (h:Sat cx β n H F w) {j b:Nat} {l:List UInt8} (hj:nth F j=some (wrF b l)) {i:Nat} (hi:i<l.length) (y:UInt8):
  ∃w',(storeCells ((⟨b,0,none⟩:Addr).add (i*1)) [byte y] 0).run cx.P w= .ok () w'/\Sat cx β n H (putAt F j (wrF b (l.set i y))) w':=by
 rw [Nat.mul_one]
 obtain ⟨cs,e,z,hb,hz,hc⟩:=(show (wrF b l).p w from h.get j hj)
 have hci:cs[i]?=some (byte l[i]):=hc i _ (by rw [List.getElem?_map,List.getElem?_eq_getElem hi];rfl)
 have hil:i<cs.size:=(Array.getElem?_eq_some_iff.1 hci).1
 have hf:w.frozen? ⟨b,i,none⟩=false:=by
  simp only [World.frozen?,hb]
  have: ¬z.1<=i:=by omega
  simp [this]
 have hs:(store (((⟨b,0,none⟩:Addr).add i).add 0) (byte y)).run cx.P w= .ok () (w.setCell ⟨b,i,none⟩ (byte y)):=by
  rw [z_bk,z_bk,Nat.zero_add,Nat.add_zero,run_store cx.P w _ (byte y) _ rfl,z_uK hb,hci]
  simp [hf]
 refine ⟨_,?_,h.upd hj rfl (w':=w.setCell ⟨b,i,none⟩ (byte y)) ⟨rfl,rfl,rfl,by simp [World.setCell],fun k _ hk=>RowKit.Below.heap_setCell _ _ _ _ hk⟩ ?_ (fun q hq=> .inl hq)⟩
 ·simp only [storeCells,Sem.run_bind,hs,Result.andThen_ok,Sem.run_pure]
 ·refine ⟨cs.setIfInBounds i (byte y),e,z,by simp [World.setCell,Array.getElem?_modify,hb],by rw [List.length_set];exact hz,fun k u hk=>?_⟩
  rw [List.map_set,List.getElem?_set] at hk
  rw [Array.getElem?_setIfInBounds]
  by_cases q:i=k
  ·subst q
   rw [if_pos rfl,List.length_map,if_pos hi] at hk
   rw [if_pos rfl,if_pos hil]
   exact hk
  ·rw [if_neg q] at hk
   rw [if_neg q]
   exact hc k u hk
def wbwp (cx:Cx) (n:Nat) (env:Env) (H:List Bk) (F:List Fact) (dst:Option Tmp) (src t:TypeId) (x:Operand) (K:KT):Prop:=
 match lk cx.tt src,lk cx.tt t,ev env x with
 | some _,some i,some (.c (.v (.string s)))=>match i.desc with
  | .slice e=>match lk cx.tt e with
   | some ie=>match ie.desc with
    | .int .u8=> ∀b c,s.size<=c->(s.size<=maxLen->c<=maxLen)->put cx.N n env H (wrF b s.data.toList::F) dst (.c (.v (.slice (some ⟨b,0,none⟩) s.size c))) K
    | _=>False
   | none=>False
  | _=>False
 | _,_,_=>False
theorem z_t1 (g:Good cx) (h:Inv cx β n env H F a w) {o:Oper} {src t:TypeId} {x:Operand} (ho:o.op= .convert src t x) {K:KT} (hp:wbwp cx n env H F o.dst src t x K) {K':Act->World->Prop} (hk: ∀a w,AfterE cx β n K a w->K' a w) {Q:Exit->Act->World->Prop}:o.wpIn cx.fence 0 cx.P a w K' Q:=by
 unfold wbwp at hp
 split at hp
 ·rename_i j i s hj hi hx
  have ti:=g.ti hi
  have tj:=g.ti hj
  split at hp
  ·rename_i e hd
   split at hp
   ·rename_i ie hie
    have tie:=g.ti hie
    split at hp
    ·rename_i hde
     have e1:a.eval x= .string s:=(h.ev hx).1
     obtain ⟨dj,hju,_⟩:=Option.map_eq_some_iff.1 tj.under
     have hrun:=Lib.run_convert_string_bytes (P:=cx.P) w src t e s hju (ti.real (d:= .slice _) hd rfl) (tie.real (d:= .int _) hde rfl)
     have hc:Chg None_ w (Lib.bytesWorld w e s):=⟨rfl,rfl,rfl,by rw [Lib.bytesWorld_size];omega,fun k hk _=>Lib.bytesWorld_at_old w e s k hk⟩
     have hs:Sat cx β n H (wrF w.heap.size s.data.toList::F) (Lib.bytesWorld w e s):=by
      refine h.sat.add hc _ ⟨_,_,_,Lib.bytesWorld_at_new w e s,?_,fun j u hj=>?_⟩ (fun k hk=>?_)
      ·simp [Lib.bytesCells]
      ·have hjl:j<s.size:=by have:=(List.getElem?_eq_some_iff.1 hj).1;simpa using this
       rw [List.getElem?_map] at hj
       obtain ⟨q,hq,rfl⟩:=Option.map_eq_some_iff.1 hj
       obtain ⟨_,rfl⟩:=List.getElem?_eq_some_iff.1 hq
       simp [Lib.bytesCells,Array.getElem?_append,byte,hjl]
      ·obtain rfl:k=w.heap.size:=hk
       rw [Lib.bytesWorld_size]
       simp
     have hcap:=grownCap_ge w s.size 0 e
     have hcm:=fun hm=>grownCap_le_maxLen w s.size 0 e hm
     refine z_gd (v:= .slice (some ⟨w.heap.size,0,none⟩) s.size (grownCap w s.size 0 e)) (w':=Lib.bytesWorld w e s) ?_ (notDefer ho (fun _ q=>by cases q)) (hk _ _ (z_aL (s:= .c (.v (.slice (some ⟨w.heap.size,0,none⟩) s.size (grownCap w s.size 0 e)))) (h.mem hs) trivial (hp _ _ hcap hcm)))
     simp only [execOp,ho,e1,Sem.run_bind,hrun,Result.andThen_ok,Sem.run_pure]
    ·exact hp.elim
   ·exact hp.elim
  ·exact hp.elim
 ·exact hp.elim
theorem z_kt (g:Good cx) {ops:Array Oper} {Q:Exit->Act->World->Prop} (r:List Oper): ∀(l:List Oper) {K:KT} {β:Va} {n:Nat} {env:Env} {H:List Bk} {F:List Fact} {a:Act} {w:World},Inv cx β n env H F a w->rwp cx ops.toList l K n env H F->(∀a w,After cx K a w->wpListIn cx.fence 0 cx.P ops Q r a w)->wpListIn cx.fence 0 cx.P ops Q (l++r) a w
 | [],K,β,n,env,H,F,a,w,h,hp,hq=>hq _ _ ⟨β,n,env,H,F,h,hp⟩
 | o::l,K,β,n,env,H,F,a,w,h,hp,hq=>by
  refine wpListIn_step fun K' hK'=>?_
  have:=z_mT (Q:=Q) g h hp (fun a w ⟨β',n',env',H',F',_,_,h',hr⟩=>hK' _ _ (z_kt g r l h' hr hq))
  split at this
  ·rename_i q;rw [if_pos q];exact this
  ·rename_i q;rw [if_neg q];exact ⟨fun f _=>cx.fence_fn f,this⟩
theorem z_uP (g:Good cx) {id:Nat} {ops:Array Oper} {Q:Exit->KT} (k:Nat) (o:Oper) {src t:TypeId} {x:Operand} (hk:nth ops.toList k=some o) (ho:o.op= .convert src t x) (hg:o.guard=none)
  (h:rwp cx ops.toList (ops.toList.take k) (fun n env H F=>wbwp cx n env H F o.dst src t x (rwp cx ops.toList (ops.toList.drop (k+1)) (Q .normal))) n env H F):Tri cx (.region id ops false) Q n env H F:=by
 refine ⟨fun β a w hi=>wpIn_region_list ?_⟩
 rw [z_aX] at hk
 obtain ⟨hkl,hke⟩:=List.getElem?_eq_some_iff.1 hk
 have e:ops.toList=ops.toList.take k++o::ops.toList.drop (k+1):=by
  rw [<-hke,<-List.drop_eq_getElem_cons hkl,List.take_append_drop]
 have key:wpListIn cx.fence 0 cx.P ops (Post cx Q) (ops.toList.take k++o::ops.toList.drop (k+1)) a w:=z_kt g _ _ hi h (fun a w ⟨β',n',env',H',F',h',hp⟩=>by
  refine wpListIn_step fun K' hK'=>?_
  rw [if_pos (by simp [Region.wanted,hg])]
  exact z_t1 g h' ho hp (fun a w ⟨β',n',env',H',F',_,_,h',hr⟩=>hK' _ _ (z_jU g _ h' hr (fun a w q=>q))))
 rw [<-e] at key
 exact key
end
end Go.Proofs.YtfomhhkoamapmaaGreatDoor.Sx
namespace Go.Proofs.YtfomhhkoamapmaaGreatDoor.Sx
open Go
section
variable {cx:Cx} {β:Va} {n:Nat} {env:Env} {H:List Bk} {F:List Fact} {a:Act} {w w':World}
def apgwp (cx:Cx) (n:Nat) (env:Env) (H:List Bk) (F:List Fact) (dst:Option Tmp) (c:Call) (K:KT):Prop:=
 match c.args.toList,c.argTypes.toList with
 | [x,y],[t,t']=>match lk cx.tt t,lk cx.tt t',ev env x,ev env y with
  | some i,some i',some (.c (.v (.slice (some ad) k cp))),some (.c (.v (.slice (some bd) m _)))=>match i.desc,i'.desc with
   | .slice e,.slice _=>match lk cx.tt e with
    | some ie=> ∃(xs ys:List Value) (r:Nat),(∀β w,Sat cx β n H F w->Rd ie.size (some ad) k xs w/\Rd ie.size (some bd) m ys w)/\(∀u∈ys,u.oneCell'=true)/\k+m=r/\cp<r/\r<=maxLen/\r*ie.bytes<=140737488355328/\0<k/\0<m/\
      ∀b c',r<=c'->put cx.N n env H (rowF e ie.size (.slice (some ⟨b,0,none⟩) r c') r (xs++ys)::F) dst (.c (.v (.slice (some ⟨b,0,none⟩) r c'))) K
    | none=>False
   | _,_=>False
  | _,_,_,_=>False
 | _,_=>False
theorem z_rZ (g:Good cx) (h:Inv cx β n env H F a w) {o:Oper} {c:Call} (ho:o.op= .call c) (hb:c.callee= .builtin .append) {K:KT} (hp:apgwp cx n env H F o.dst c K) {K':Act->World->Prop} (hk: ∀a w,AfterE cx β n K a w->K' a w) {Q:Exit->Act->World->Prop}:o.wpIn cx.fence 0 cx.P a w K' Q:=by
 unfold apgwp at hp
 split at hp
 ·rename_i x y t t' hxs hts
  split at hp
  ·rename_i i i' ad k cp bd m cq hi hi' hx hy
   have ti:=g.ti hi
   have ti':=g.ti hi'
   split at hp
   ·rename_i e e' hd hd'
    split at hp
    ·rename_i ie hie
     have tie:=g.ti hie
     obtain ⟨xs,ys,r,hrd,h1,rfl,hcp,h63,hby,hk0,hm0,hK⟩:=hp
     obtain ⟨hX,hY⟩:=hrd β w h.sat
     have ht:=ti.real (d:= .slice _) hd rfl
     have ht':=ti'.real (d:= .slice _) hd' rfl
     obtain ⟨i0,z,hi0,hz,hzc,his,hib⟩:=tie.row
     have hzs:z.cells.size=ie.size:=by rw [<-Array.length_toList,hzc,tie.len]
     obtain ⟨ad1,q1,hX2⟩:=hX.2 hk0
     obtain rfl:=Option.some.inj q1
     obtain ⟨bd1,q2,hY2⟩:=hY.2 hm0
     obtain rfl:=Option.some.inj q2
     have hs:Src cx.P i0.size t' (.slice (some bd) m cq) m ys w:=by
      rw [his]
      exact Src.ofSlice w ht' bd m cq ys hY.1 hY2 h1
     have hold:(Builtin.firstCells i0.size k (.slice (some ad) k cp)).run cx.P w.drew= .ok xs.toArray w.drew:=by
      rw [his]
      exact run_firstCells_some (P:=cx.P) w.drew ie.size k ad k cp xs hX.1 (by simpa using hX2)
     have hml:maxLen=9223372036854775807:=by decide
     have hrun:=run_append_grow_src (P:=cx.P) w t t' o.type e i0 z ht hi0 hz (some ad) k cp xs hold (.slice (some bd) m cq) m ys hs hcp (by omega) (by rw [hib];exact growslice_fits hcp hby)
     have hge:=grownCap_ge w (k+m) cp e
     have hcm:grownCap w (k+m) cp e<=maxLen:=grownCap_le_maxLen w (k+m) cp e h63
     have hlen:(xs++ys).length=(k+m)*ie.size:=by rw [List.length_append,hX.1,hY.1,Nat.add_mul]
     have hown:(w.drew.alloc (.cells ((xs++ys).toArray++Builtin.zeroCells z.cells (grownCap w (k+m) cp e - (k+m))) e)).ownsRow 0 e ie.size (.slice (some ⟨w.heap.size,0,none⟩) (k+m) (grownCap w (k+m) cp e)) (k+m) (xs++ys):=by
      refine ⟨hlen,.inr ⟨w.heap.size,_,_,rfl,Nat.zero_le _,heap_alloc_new w.drew _,hge,hcm,?_,?_⟩⟩
      ·rw [Array.size_append,List.size_toArray,size_zeroCells,hzs,hlen,<-Nat.add_mul]
       congr 1
       omega
      ·rw [Array.toList_append,<-hlen]
       exact List.take_left
     have eargs:c.args.map a.eval= #[.slice (some ad) k cp,.slice (some bd) m cq]:=by
      apply Array.ext'
      rw [Array.toList_map,hxs]
      simp [(h.ev hx).1,(h.ev hy).1,SV.val,SL.val]
     have etys:c.argTypes= #[t,t']:=by
      apply Array.ext'
      rw [hts]
     have hS:Sat cx β n H (rowF e ie.size (.slice (some ⟨w.heap.size,0,none⟩) (k+m) (grownCap w (k+m) cp e)) (k+m) (xs++ys)::F) (w.drew.alloc (.cells ((xs++ys).toArray++Builtin.zeroCells z.cells (grownCap w (k+m) cp e - (k+m))) e)):=by
      have hc: ∀ob,Chg None_ w (w.drew.alloc ob):=fun ob=>⟨rfl,rfl,rfl,by simp,fun k hk _=>heap_alloc_old w.drew ob hk⟩
      refine h.sat.add (hc _) _ hown (fun q hq=>?_)
      have hlt:=hown.lt q hq
      have hq':Value.ownBlock (.slice (some ⟨w.heap.size,0,none⟩) (k+m) (grownCap w (k+m) cp e))=some q:=hq
      obtain rfl:w.heap.size=q:=Option.some.inj hq'
      exact ⟨Nat.le_refl _,hlt.2⟩
     refine z_gd (v:= .slice (some ⟨w.heap.size,0,none⟩) (k+m) (grownCap w (k+m) cp e)) (w':=_) ?_ (notDefer ho (fun _ q=>by cases q)) (hk _ _ (z_aL (s:= .c (.v (.slice (some ⟨w.heap.size,0,none⟩) (k+m) (grownCap w (k+m) cp e)))) (h.mem hS) trivial (hK _ _ hge)))
     simp only [execOp,ho]
     refine z_kv a c .append hb o.type w _ _ ?_
     rw [eargs,etys]
     simp [builtin,hrun]
    ·exact hp.elim
   ·exact hp.elim
  ·exact hp.elim
 ·exact hp.elim
theorem z_u4 (g:Good cx) {id:Nat} {ops:Array Oper} {Q:Exit->KT} (k:Nat) (o:Oper) {c:Call} (hk:nth ops.toList k=some o) (ho:o.op= .call c) (hb:c.callee= .builtin .append) (hg:o.guard=none)
  (h:rwp cx ops.toList (ops.toList.take k) (fun n env H F=>apgwp cx n env H F o.dst c (rwp cx ops.toList (ops.toList.drop (k+1)) (Q .normal))) n env H F):Tri cx (.region id ops false) Q n env H F:=by
 refine ⟨fun β a w hi=>wpIn_region_list ?_⟩
 rw [z_aX] at hk
 obtain ⟨hkl,hke⟩:=List.getElem?_eq_some_iff.1 hk
 have e:ops.toList=ops.toList.take k++o::ops.toList.drop (k+1):=by
  rw [<-hke,<-List.drop_eq_getElem_cons hkl,List.take_append_drop]
 have key:wpListIn cx.fence 0 cx.P ops (Post cx Q) (ops.toList.take k++o::ops.toList.drop (k+1)) a w:=z_kt g _ _ hi h (fun a w ⟨β',n',env',H',F',h',hp⟩=>by
  refine wpListIn_step fun K' hK'=>?_
  rw [if_pos (by simp [Region.wanted,hg])]
  exact z_rZ g h' ho hb hp (fun a w ⟨β',n',env',H',F',_,_,h',hr⟩=>hK' _ _ (z_jU g _ h' hr (fun a w q=>q))))
 rw [<-e] at key
 exact key
end
end Go.Proofs.YtfomhhkoamapmaaGreatDoor.Sx
namespace Go.Proofs.YtfomhhkoamapmaaGreatDoor.Sx
open Go
attribute [local irreducible] Calls
theorem z_pH (w:World) (A:Option Addr) (b:List UInt8) (c:Nat) (h0:0<b.length) (hl:b.length<=1000000) (hA:Bs w A b):Con Tryz.prog z_eF #[.slice A b.length c] w [] fun v Fs=> ∃A' c',v= .slice A' (labL++b).length c'/\(labL++b).length<=c'/\Fs=[browF z_ab A' (labL++b) c']:=by
 have hml:=maxLen_eq
 have g:=z_hq w (Un [])
 obtain ⟨ad,rfl,_⟩:=hA.2 h0
 refine z_ds (cx:=z_eb w (Un [])) g z_jM rfl rfl (β:=Va.z) [.c (.v (.slice (some ad) b.length c))] 0 [] [oldF w] rfl rfl (z_aS rfl) ?_
 refine z_ae g ?_
 refine z_id (z_u4 g 3 _ rfl rfl rfl rfl ?_)
 intro b1
 refine ⟨0,labL.map byte,rfl,?_⟩
 refine ⟨labL.map byte,b.map byte,7+b.length,fun β w' hs=>⟨hs.get 0 rfl,Rd.old hA (hs.get 1 rfl)⟩,fun u hu=>?_,rfl,by omega,by omega,by show (7+b.length)*1<=_;omega,by decide,h0,?_⟩
 ·obtain ⟨x,_,rfl⟩:=List.mem_map.1 hu
  rfl
 intro b2 c2 hc2
 refine z_aQ g ?_
 intro β w' hs
 have e:(labL++b).length=7+b.length:=by rw [List.length_append];rfl
 exact (hs.keepB (List.nil_sublist _)).fin [0] ⟨some ⟨b2,0,none⟩,c2,by rw [e];rfl,by rw [e];exact hc2,by simp only [browF,e,List.map_append];rfl⟩ rfl rfl rfl ⟨rfl,trivial⟩
theorem z_sf {l:List UInt8} {x:Rn} (hx:x∈runesAt l 0):x.2= -1\/0<=x.2:=by
 have h:=z_gS l _ 0 (Nat.le_refl _)
 rw [List.drop_zero] at h
 have hm:x.2∈(Nam.runes l).map runeI:=by rw [<-h];exact List.mem_map.2 ⟨x,hx,rfl⟩
 obtain ⟨o,_,he⟩:=List.mem_map.1 hm
 cases o with
 | none=>exact .inl he.symm
 | some r=>right;rw [<-he];exact Int.natCast_nonneg r
theorem signRd {w:World} {ad:Addr} {L:List Rn} (h:Rd 2 (some ad) L.length (signsV L) w) {k:Nat} {x:Rn} (hx:L[k]?=some x): ∀j u,(signV x)[j]?=some u->w.cell? ((ad.add (k*2)).add j)=some u:=by
 obtain ⟨hil,hie⟩:=List.getElem?_eq_some_iff.1 hx
 have h2:=Rd.elem (f:=signV) (fun _=>rfl) h rfl hil
 rw [hie] at h2
 exact h2
structure PrR where
 k:Nat
 out:List UInt8
 A:Option Addr
 c:Nat
theorem z_so (r:Nat):(rbytesL r).length<=4:=by
 unfold rbytesL
 split
 ·exact (by decide:1<=4)
 ·split
  ·exact (by decide:2<=4)
  ·split
   ·exact (by decide:3<=4)
   ·exact Nat.le_refl 4
set_option maxHeartbeats 1000000 in
theorem z_tF (w:World) (s:ByteArray) (hl:s.size<=100000):
  Pu Tryz.prog z_ec #[.string s] w (.tuple #[.string (mkS (prepF s.data.toList).1),.int .i64 (prepF s.data.toList).2]):=by
 have g:=z_g7 w (Un [])
 have hml:=maxLen_eq
 have hlen:s.data.toList.length=s.size:=rfl
 have hLl:=z_o2 s.data.toList _ 0 (Nat.le_refl _)
 obtain ⟨p,e,hpe⟩: ∃p e,prepF s.data.toList=(p,e):=⟨_,_,rfl⟩
 rw [hpe]
 have hpr:=z_xg s.data.toList
 rw [hpe] at hpr
 have fin: ∀(q:List UInt8) (d:Int),(p,e)=(q,d)-> ∀ {n:Nat} {H:List Bk} {F:List Fact} (β:Va) (w':World),Sat (z_bW w (Un [])) β n H F w'->Fin w [] (fun u Fs=>u= .tuple #[.string (mkS (p,e).1),.int .i64 (p,e).2]/\Fs=[]) (.tuple #[.string (mkS q),.int .i64 d]) w':=by
  intro q d h n H F β w' hs
  rw [h]
  exact (hs.keepB (List.nil_sublist _)).fin [] ⟨rfl,rfl⟩
 refine z_ac (cx:=z_bW w (Un [])) g z_i0 rfl rfl (β:=Va.z) [.c (.v (.string s))] 0 [] [] rfl rfl (Sat.start rfl) ?_
 refine z_aa [] (fun β w' hs=>z_wC w' s (by omega)) ?_
 rintro v Fs ⟨A,c,rfl,hc,hA,rfl⟩
 have hneg:=fun (x:Rn) (hx:x∈runesAt s.data.toList 0)=>z_sf hx
 have hvi:=z_oB s.data.toList
 have hsv:=fun hv=>z_rM (l:=s.data.toList) hv
 generalize runesAt s.data.toList 0=L at *
 generalize validB s.data.toList=bv at *
 have hL2:L.length<=100000:=by omega
 refine z_ag 0 (fun k:Nat=>[(4,.c (.v (.slice A L.length c))),(12,.c (.v (.slice A L.length c))),(13,.c (.v (.int .i64 L.length))),(14,.c (.v (.int .i64 (k:Int))))]) (fun _=>[]) (fun _=>[sgnF A L c])
  (fun k=>k<=L.length/\ ∀x∈L.take k,x.2≠ -1) (fun k=>L.length - k) 0 ⟨Nat.zero_le _,fun x h=>by cases h⟩ (Ent.same ⟨rfl,rfl,rfl,rfl,trivial⟩ rfl) g ?_
 rintro k ⟨hk,hall⟩
 refine BIf.dec (fun hlt=>?_) (fun hge=>?_)
 ·have hlt0:(k:Int)<L.length:=hlt
  have hkl:k<L.length:=by omega
  obtain ⟨x,hx,hxm⟩:=at_lt hkl
  obtain ⟨ad,rfl⟩:=hA (by omega)
  have hsn:L.take (k+1)=L.take k++[x]:=by rw [List.take_add_one,hx];rfl
  refine ⟨ad,k,rfl,rfl,hkl,signV x,rfl,fun β w' hs=>signRd (z_aj (hs.get 0 rfl)) hx,?_⟩
  refine BIf.dec (fun h0=>?_) (fun h0=>?_)
  ·have h00:x.2<0:=h0
   have hx1:x.2= -1:=by rcases hneg x hxm with h | h;exact h;omega
   have hbv: ¬bv=true:=fun q=>hvi.1 q x hxm hx1
   rw [if_neg hbv] at hpr
   exact fun β w' hs=>fin [] 4 hpr β w' hs
  ·have h00: ¬x.2<0:=h0
   refine ⟨((k+1:Nat):Int),by rw [wrap_i64 (by omega) (by omega)];rfl,?_⟩
   refine ⟨k+1,⟨by omega,fun y hy=>?_⟩,by omega,Ent.mk' ⟨rfl,rfl,rfl,rfl,trivial⟩ rfl (fun β w hs=>(hs.keepB (List.nil_sublist _)).lower)⟩
   rw [hsn] at hy
   rcases List.mem_append.1 hy with q | q
   ·exact hall y q
   ·obtain rfl:=List.mem_singleton.1 q
    omega
 ·have hge0: ¬(k:Int)<L.length:=hge
  obtain rfl:k=L.length:=by omega
  rw [List.take_length] at hall
  have hbv:bv=true:=hvi.2 hall
  rw [if_pos hbv] at hpr
  have hsv:=hsv hbv
  refine z_ag (ι:=PrR) 0 (fun i=>[(7,.c (.v (.slice i.A i.out.length i.c))),(22,.c (.v (.slice A L.length c))),(23,.c (.v (.int .i64 L.length))),(24,.c (.v (.int .i64 (i.k:Int))))]) (fun _=>[]) (fun i=>[browF z_ab i.A i.out i.c,sgnF A L c])
   (fun i=>i.k<=L.length/\prepR (L.map (·.2))=(prepR ((L.drop i.k).map (·.2))).map (i.out++ ·)/\i.out.length<=i.c/\i.out.length<=4*i.k) (fun i=>L.length - i.k) ⟨0,[],none,0⟩ ⟨Nat.zero_le _,by rw [List.drop_zero];cases prepR (L.map (·.2))<;>rfl,Nat.zero_le _,Nat.zero_le _⟩ (Ent.mk' ⟨rfl,rfl,rfl,rfl,trivial⟩ rfl (fun β w hs=>hs.nilRow _ _)) g ?_
  rintro ⟨k,out,A1,c1⟩ ⟨hk,hinv,hoc,hol⟩
  simp only at hk hinv hoc hol
  simp only
  refine BIf.dec (fun hlt=>?_) (fun hge=>?_)
  ·have hlt0:(k:Int)<L.length:=hlt
   have hkl:k<L.length:=by omega
   obtain ⟨x,hx,hxm⟩:=at_lt hkl
   obtain ⟨ad,rfl⟩:=hA (by omega)
   have hdr:L.drop k=x::L.drop (k+1):=by
    obtain ⟨h1,h2⟩:=List.getElem?_eq_some_iff.1 hx
    rw [List.drop_eq_getElem_cons h1,h2]
   rw [hdr,List.map_cons,prepR] at hinv
   obtain ⟨r,hxr,hsg,hr⟩:=hsv x hxm
   obtain ⟨z,hz⟩: ∃z,x.2=z:=⟨_,rfl⟩
   rw [hz] at hinv hxr
   obtain ⟨x1,x2⟩:=x
   simp only at hz
   subst hz
   refine ⟨ad,k,rfl,rfl,hkl,signV (x1,x2),rfl,fun β w' hs=>signRd (z_aj (hs.get 1 rfl)) hx,?_⟩
   obtain ⟨b1,hb1⟩: ∃b1,rblank x2=b1:=⟨_,rfl⟩
   refine z_ah (v:= .bool b1) (fun β w' hs=>by rw [<-hb1];exact z_w1 w' x2) ?_
   cases b1 with
   | true=>
    rw [if_pos hb1] at hinv
    intro b2
    refine ⟨1,out.length,out.length+1,out.map byte,[32].map byte,(out++[32]).map byte,rfl,fun β w hs=>z_aj (hs.get 0 rfl),z_as _,rfl,List.map_append.symm,by rw [maxLen_eq];omega,by show (out.length+1)*1<=_;omega,?_⟩
    intro A' c' q1 q2 _
    refine ⟨((k+1:Nat):Int),by rw [wrap_i64 (by omega) (by omega)];rfl,?_⟩
    have hle:(out++[32]:List UInt8).length=out.length+1:=by simp
    refine ⟨⟨k+1,out++[32],A',c'⟩,⟨by show k+1<=_;omega,?_,by show (out++[32]:List UInt8).length<=c';omega,by show (out++[32]:List UInt8).length<=4*(k+1);omega⟩,by show L.length - (k+1)<L.length - k;omega,?_⟩
    ·rw [hinv]
     show _=(prepR ((L.drop (k+1)).map (·.2))).map (out++[32]++ ·)
     cases prepR ((L.drop (k+1)).map (·.2)) with
     | none=>rfl
     | some q=>simp
    ·simp only [browF,hle]
     exact Ent.mk' ⟨rfl,rfl,rfl,rfl,trivial⟩ rfl (fun β w hs=>((hs.perm [1,2]).keepB (List.nil_sublist _)).lower)
   | false=>
    rw [if_neg (by rw [hb1];decide)] at hinv
    obtain ⟨b2,hb2⟩: ∃b2,rgoes x2=b2:=⟨_,rfl⟩
    refine z_ah (v:= .bool b2) (fun β w' hs=>by rw [<-hb2];exact z_x8 w' x2) ?_
    cases b2 with
    | true=>
     rw [if_pos hb2] at hinv
     refine ⟨((k+1:Nat):Int),by rw [wrap_i64 (by omega) (by omega)];rfl,?_⟩
     exact ⟨⟨k+1,out,A1,c1⟩,⟨by show k+1<=_;omega,hinv,hoc,by show out.length<=4*(k+1);omega⟩,by show L.length - (k+1)<L.length - k;omega,Ent.mk' ⟨rfl,rfl,rfl,rfl,trivial⟩ rfl (fun β w hs=>(hs.keepB (List.nil_sublist _)).lower)⟩
    | false=>
     rw [if_neg (by rw [hb2];decide)] at hinv
     obtain ⟨b3,hb3⟩: ∃b3,rbars x2=b3:=⟨_,rfl⟩
     refine z_ah (v:= .bool b3) (fun β w' hs=>by rw [<-hb3];exact z_x6 w' x2 (by omega)) ?_
     cases b3 with
     | true=>
      rw [if_pos hb3] at hinv
      have hno:prepR (L.map (·.2))=none:=hinv
      rw [hno] at hpr
      exact fun β w' hs=>fin [] 5 hpr β w' hs
     | false=>
      rw [if_neg (by rw [hb3];decide)] at hinv
      refine z_aa [] (fun β w' hs=>z_wl w' r x2 hxr.symm hsg) ?_
      rintro v Fs ⟨A2,c2,rfl,hc2,hm2,rfl⟩
      have hrl:=z_so r
      rw [hxr,Int.toNat_natCast] at hinv
      generalize rbytesL r=bs at *
      refine ⟨1,out.length,out.length+bs.length,out.map byte,bs.map byte,(out++bs).map byte,rfl,fun β w hs=>z_aj (hs.get 0 rfl),z_as _,rfl,List.map_append.symm,by rw [maxLen_eq];omega,by show (out.length+bs.length)*1<=_;omega,?_⟩
      intro A' c' q1 q2 _
      refine ⟨((k+1:Nat):Int),by rw [wrap_i64 (by omega) (by omega)];rfl,?_⟩
      have hle:(out++bs).length=out.length+bs.length:=List.length_append
      refine ⟨⟨k+1,out++bs,A',c'⟩,⟨by show k+1<=_;omega,?_,by show (out++bs).length<=c';omega,by show (out++bs).length<=4*(k+1);omega⟩,by show L.length - (k+1)<L.length - k;omega,?_⟩
      ·rw [hinv]
       show _=(prepR ((L.drop (k+1)).map (·.2))).map (out++bs++ ·)
       cases prepR ((L.drop (k+1)).map (·.2)) with
       | none=>rfl
       | some q=>simp
      ·simp only [browF,hle]
       exact Ent.mk' ⟨rfl,rfl,rfl,rfl,trivial⟩ rfl (fun β w hs=>((hs.perm [1,2]).keepB (List.nil_sublist _)).lower)
  ·have hge0: ¬(k:Int)<L.length:=hge
   obtain rfl:k=L.length:=by omega
   rw [List.drop_length] at hinv
   have hso:prepR (L.map (·.2))=some out:=by rw [hinv];simp [prepR]
   rw [hso] at hpr
   refine ⟨out,fun β w hs=>z_aj (hs.get 0 rfl),?_⟩
   exact fun β w' hs=>fin out 0 hpr β w' hs
theorem z_wO (w:World) (s:ByteArray) (most:Nat) (hl:s.size<=100000):
  Pu Tryz.prog z_fz #[.string s,.int .i64 (most:Int)] w (.tuple #[.string (mkS (sizF s.data.toList most).1),.int .i64 (sizF s.data.toList most).2]):=by
 have g:=z_h2 w (Un [])
 refine z_ac (cx:=z_cv w (Un [])) g z_kI rfl rfl (β:=Va.z) [.c (.v (.string s)),.c (.v (.int .i64 (most:Int)))] 0 [] [oldF w] rfl rfl (z_aS rfl) ?_
 obtain ⟨p,e,hpe⟩: ∃p e,prepF s.data.toList=(p,e):=⟨_,_,rfl⟩
 have hz:sizF s.data.toList most=if e=0 then if p=[] then ([],2) else if most<p.length then ([],3) else (p,0) else ([],e):=by unfold sizF;rw [hpe]
 refine z_ah (v:= .tuple #[.string (mkS p),.int .i64 e]) (fun β w' hs=>by
  have h:=z_tF w' s hl
  rw [hpe] at h
  exact h) ?_
 have fin: ∀(q:List UInt8) (d:Int),sizF s.data.toList most=(q,d)-> ∀ {n:Nat} {H:List Bk} {F:List Fact} (β:Va) (w':World),Sat (z_cv w (Un [])) β n H F w'->Fin w [] (fun u Fs=>u= .tuple #[.string (mkS (sizF s.data.toList most).1),.int .i64 (sizF s.data.toList most).2]/\Fs=[]) (.tuple #[.string (mkS q),.int .i64 d]) w':=by
  intro q d h n H F β w' hs
  rw [h]
  exact (hs.keepB (List.nil_sublist _)).fin [] ⟨rfl,rfl⟩
 have hsz:(mkS p).size=p.length:=by simp [mkS,ByteArray.size]
 refine BIf.not (BIf.dec (fun he=>?_) (fun he=>?_))
 ·have he0:e=0:=he
  rw [if_pos he0] at hz
  refine BIf.dec (fun hp=>?_) (fun hp=>?_)
  ·have hp0:((mkS p).size:Int)=0:=hp
   rw [hsz] at hp0
   have hp1:p=[]:=List.length_eq_zero_iff.1 (by omega)
   rw [if_pos hp1] at hz
   exact fun β w' hs=>fin [] 2 hz β w' hs
  ·have hp0: ¬((mkS p).size:Int)=0:=hp
   rw [hsz] at hp0
   rw [if_neg (fun q=>hp0 (by rw [q];rfl))] at hz
   refine BIf.dec (fun hm=>?_) (fun hm=>?_)
   ·have hm0:(most:Int)<((mkS p).size:Int):=hm
    rw [hsz] at hm0
    rw [if_pos (by omega)] at hz
    exact fun β w' hs=>fin [] 3 hz β w' hs
   ·have hm0: ¬(most:Int)<((mkS p).size:Int):=hm
    rw [hsz] at hm0
    rw [if_neg (by omega)] at hz
    exact fun β w' hs=>fin p 0 hz β w' hs
 ·have he0: ¬e=0:=he
  rw [if_neg he0] at hz
  exact fun β w' hs=>fin [] e hz β w' hs
end Go.Proofs.YtfomhhkoamapmaaGreatDoor.Sx
namespace Go.Proofs.YtfomhhkoamapmaaGreatDoor.Sx
open Go Sha
attribute [local irreducible] Calls
end Go.Proofs.YtfomhhkoamapmaaGreatDoor.Sx
namespace Go.Proofs.YtfomhhkoamapmaaGreatDoor.Sx
open Go
attribute [local irreducible] Calls
set_option maxHeartbeats 1000000 in
theorem z_sS (w:World) (s:ByteArray) (hl:s.size<=100000):Pu Tryz.prog z_fe #[.string s] w (.bool (plainF s.data.toList)):=by
  have g:=z_im w (Un [])
  have hlen:s.data.toList.length=s.size:=rfl
  refine z_ac (cx:=z_cs w (Un [])) g z_kR rfl rfl (β:=Va.z) [.c (.v (.string s))] 0 [] [] rfl rfl (Sat.start rfl) ?_
  refine z_ag 0 (fun k:Nat=>[(0,.c (.v (.string s))),(3,.c (.v (.int .i64 (k:Int))))]) (fun _=>[]) (fun _=>[])
    (fun k=>k<=s.size/\(s.data.toList.take k).all okc=true) (fun k=>s.size - k) 0 ⟨Nat.zero_le _,rfl⟩ (Ent.same ⟨rfl,rfl,trivial⟩ rfl) g ?_
  rintro k ⟨hk,hall⟩
  refine BIf.dec (fun hlt=>?_) (fun hge=>?_)
  · have hlt0:(k:Int)<s.size:=hlt
    have hkl:k<s.size:=by omega
    obtain ⟨x,hx,hxm⟩:=at_lt (l:=s.data.toList) (k:=k) (by omega)
    obtain ⟨z,hz⟩: ∃z:Int,(x.toNat:Int)=z:=⟨_,rfl⟩
    have hsn:okc x=true->(s.data.toList.take (k+1)).all okc=true:=fun h=>by rw [List.take_add_one,hx,List.all_append,hall];simp [h]
    have bad:okc x=false-> ∀ {n:Nat} {H:List Bk} {F:List Fact} (β:Va) (w':World),Sat (z_cs w (Un [])) β n H F w'->Fin w [] (fun u Fs=>u= .bool (plainF s.data.toList)/\Fs=[]) (.bool false) w':=by
      intro h n H F β w' hs
      refine (hs.keepB (List.nil_sublist _)).fin [] ⟨?_,rfl⟩
      have:s.data.toList.all okc=false:=by
        rw [List.all_eq_false]
        exact ⟨x,hxm,by rw [h];decide⟩
      unfold plainF
      rw [this]
      rfl
    refine ⟨k,x,rfl,hx,?_⟩
    have hb:byte x= .int .u8 z:=by rw [<-hz];rfl
    rw [hb]
    clear hb
    repeat' first
      | refine BIf.dec (fun h=>?_) (fun h=>?_)
      | refine BIf.not (BIf.dec (fun h=>?_) (fun h=>?_))
    all_goals first
      | exact fun β w' hs=>bad (by simp only [okc,decide_eq_false_iff_not];omega) β w' hs
      | (refine ⟨((k+1:Nat):Int),by rw [wrap_i64 (by omega) (by omega)];rfl,?_⟩
         exact ⟨k+1,⟨hkl,hsn (by simp only [okc,decide_eq_true_eq];omega)⟩,by omega,Ent.same ⟨rfl,rfl,trivial⟩ rfl⟩)
  · have hge0: ¬(k:Int)<s.size:=hge
    obtain rfl:k=s.size:=by omega
    rw [<-hlen,List.take_length] at hall
    have hpl:plainF s.data.toList=(decide (s.data.toList≠[])&&decide (s.data.toList.length<=32)):=by unfold plainF;rw [hall,Bool.true_and]
    have hne:s.data.toList≠[]↔1<=s.size:=by
      rw [<-hlen]
      exact ⟨fun h=>List.length_pos_iff.2 h,fun h=>List.length_pos_iff.1 h⟩
    refine BIf.dec (fun h1=>?_) (fun h1=>?_)
    · have h10:(1:Int)<=s.size:=h1
      intro β w' hs
      refine (hs.keepB (List.nil_sublist _)).fin [] ⟨?_,rfl⟩
      rw [hpl,decide_eq_true (hne.2 (by omega)),Bool.true_and,hlen]
      show Value.bool (decide ((s.size:Int)<=32))=_
      congr 1
      exact decide_eq_decide.2 (by omega)
    · have h10: ¬(1:Int)<=s.size:=h1
      intro β w' hs
      refine (hs.keepB (List.nil_sublist _)).fin [] ⟨?_,rfl⟩
      rw [hpl,decide_eq_false (fun q=>h10 (by have:=hne.1 q;omega)),Bool.false_and]
      rfl
end Go.Proofs.YtfomhhkoamapmaaGreatDoor.Sx
namespace Go.Proofs.YtfomhhkoamapmaaGreatDoor.Sx
open Go
attribute [local irreducible] Calls
open Classical in
theorem z_up (w:World) (t:Tk) (ht:t.Ok):Pu Tryz.prog z_e9 #[.agg t.cells.toArray] w (.bool (decide t.Right)):=by
 have g:=z_iv w (Un [])
 have hu:(mkS t.usr).size<=100000:=ht.u
 have hte:(mkS t.ten).size<=100000:=ht.n
 have hro:(mkS t.rol).size<=100000:=ht.r
 obtain ⟨e,he⟩: ∃e:Int,(t.epoch:Int)=e:=⟨_,rfl⟩
 obtain ⟨s,hs⟩: ∃s:Int,(t.serial:Int)=s:=⟨_,rfl⟩
 obtain ⟨f,hf⟩: ∃f:Int,(t.fro:Int)=f:=⟨_,rfl⟩
 obtain ⟨l,hl⟩: ∃l:Int,(t.til:Int)=l:=⟨_,rfl⟩
 obtain ⟨n,hn⟩: ∃n:Int,(t.gen:Int)=n:=⟨_,rfl⟩
 have hc:t.cells=[.int .u64 e,.int .u64 s,.int .u64 f,.int .u64 l,.int .u64 n,.string (mkS t.ten),.string (mkS t.usr),.string (mkS t.rol)]:=by unfold Tk.cells;rw [he,hs,hf,hl,hn]
 rw [hc]
 clear hc
 refine z_ac (cx:=z_cA w (Un [])) g z_kU rfl rfl (β:=Va.z) [.agg [.v (.int .u64 e),.v (.int .u64 s),.v (.int .u64 f),.v (.int .u64 l),.v (.int .u64 n),.v (.string (mkS t.ten)),.v (.string (mkS t.usr)),.v (.string (mkS t.rol))]] 0 [] [] rfl rfl (Sat.start rfl) ?_
 have no: ¬t.Right-> ∀ {β:Va} {n:Nat} {H:List Bk} {F:List Fact} {w':World},Sat (z_cA w (Un [])) β n H F w'->Fin w [] (fun v Fs=>v= .bool (decide t.Right)/\Fs=[]) (.bool false) w':=fun h β n H F w' hs=>(hs.keepB (List.nil_sublist _)).fin [] ⟨by rw [decide_eq_false h],rfl⟩
 refine z_ah (fun β w' hs=>by
  have h:=z_wO w' (mkS t.usr) 32 hu
  rw [z_eq] at h
  exact h) ?_
 refine BIf.not (BIf.dec (fun h1=>?_) (fun h1=>?_))
 rotate_left
 ·intro β w' hs
  exact no (fun h=>h1 (by have:=h.usr;unfold namedT at this;simp only [Bool.and_eq_true,decide_eq_true_iff] at this;exact this.1)) hs
 refine BIf.not (BIf.dec (fun h2=>?_) (fun h2=>?_))
 rotate_left
 ·intro β w' hs
  exact no (fun h=>h2 (by have:=h.usr;unfold namedT at this;simp only [Bool.and_eq_true,decide_eq_true_iff] at this;rw [this.2])) hs
 have hnm:namedT t.usr=true:=by
  unfold namedT
  rw [Bool.and_eq_true,decide_eq_true_iff,decide_eq_true_iff]
  exact ⟨h1,z_rW h2⟩
 refine z_ah (v:= .bool (plainF t.ten)) (fun β w' hs=>by
  have h:=z_sS w' (mkS t.ten) hte
  rw [z_eq] at h
  exact h) ?_
 cases h3:plainF t.ten with
 | false=>
  intro β w' hs
  exact no (fun h=>by rw [h.ten] at h3;cases h3) hs
 | true=>
 refine z_ah (v:= .bool (plainF t.rol)) (fun β w' hs=>by
  have h:=z_sS w' (mkS t.rol) hro
  rw [z_eq] at h
  exact h) ?_
 cases h4:plainF t.rol with
 | false=>
  intro β w' hs
  exact no (fun h=>by rw [h.rol] at h4;cases h4) hs
 | true=>
 refine BIf.dec (fun c0=>?_) (fun c0=>?_)
 rotate_left
 ·have d0: ¬e>=1:=c0
  intro β w' hs
  exact no (fun h=>d0 (by have:=h.e1;omega)) hs
 have d0:e>=1:=c0
 refine BIf.dec (fun c1=>?_) (fun c1=>?_)
 rotate_left
 ·have d1: ¬e<4294967296:=c1
  intro β w' hs
  exact no (fun h=>d1 (by have:=h.e2;omega)) hs
 have d1:e<4294967296:=c1
 refine BIf.dec (fun c2=>?_) (fun c2=>?_)
 rotate_left
 ·have d2: ¬s>=1:=c2
  intro β w' hs
  exact no (fun h=>d2 (by have:=h.s1;omega)) hs
 have d2:s>=1:=c2
 refine BIf.dec (fun c3=>?_) (fun c3=>?_)
 rotate_left
 ·have d3: ¬s<=9007199254740992:=c3
  intro β w' hs
  exact no (fun h=>d3 (by have:=h.s2;omega)) hs
 have d3:s<=9007199254740992:=c3
 refine BIf.dec (fun c4=>?_) (fun c4=>?_)
 rotate_left
 ·have d4: ¬n>=1:=c4
  intro β w' hs
  exact no (fun h=>d4 (by have:=h.g1;omega)) hs
 have d4:n>=1:=c4
 refine BIf.dec (fun c5=>?_) (fun c5=>?_)
 rotate_left
 ·have d5: ¬n<=9007199254740992:=c5
  intro β w' hs
  exact no (fun h=>d5 (by have:=h.g2;omega)) hs
 have d5:n<=9007199254740992:=c5
 refine BIf.dec (fun c6=>?_) (fun c6=>?_)
 rotate_left
 ·have d6: ¬f<l:=c6
  intro β w' hs
  exact no (fun h=>d6 (by have:=h.lt;omega)) hs
 have d6:f<l:=c6
 intro β w' hs
 refine (hs.keepB (List.nil_sublist _)).fin [] ⟨?_,rfl⟩
 show Value.bool (decide (l<=1099511627776))=_
 congr 1
 exact decide_eq_decide.2 ⟨fun h=>⟨hnm,h3,h4,by omega,by omega,by omega,by omega,by omega,by omega,by omega,by omega⟩,fun h=>by have:=h.le;omega⟩
open Classical in
theorem z_oR (w:World) (t:Tk) (ht:t.Ok):Con Tryz.prog z_go #[.agg t.cells.toArray] w [] fun v Fs=>(t.Right/\ ∃A c,v= .tuple #[.slice A (bodyL t).length c,.int .i64 0]/\(bodyL t).length<=c/\Fs=[browF z_ab A (bodyL t) c])\/(¬t.Right/\v= .tuple #[.slice none 0 0,.int .i64 4]/\Fs=[]):=by
 have g:=z_iY w (Un [])
 have hml:=maxLen_eq
 refine z_ac (cx:=z_cU w (Un [])) g z_lo rfl rfl (β:=Va.z) [.agg (t.cells.map SL.v)] 0 [] [] rfl rfl (Sat.start rfl) ?_
 refine z_ah (v:= .bool (decide t.Right)) (fun β w' hs=>z_up w' t ht) ?_
 refine BIf.not (BIf.dec (fun hr=>?_) (fun hr=>?_))
 rotate_left
 ·intro β w' hs
  exact (hs.keepB (List.nil_sublist _)).fin [] (.inr ⟨hr,rfl,rfl⟩)
 have l1:=z_bg hr.ten
 have l2:=z_eg hr.usr
 have l3:=z_bg hr.rol
 intro b1
 refine z_aa [] (fun β w' hs=>z_nE w' t.epoch 4 ht.e (by decide)) ?_
 rintro v Fs ⟨A1,c1,rfl,hc1,_,rfl⟩
 have hb4:=z_ay 4 t.epoch
 have e0:preT t 0=[1]++be 4 t.epoch:=by unfold preT;simp
 refine ⟨1,1,(preT t 0).length,[Value.int .u8 1],(be 4 t.epoch).map byte,(preT t 0).map byte,rfl,fun β w' hs=>z_aj (hs.get 0 rfl),z_as _,by rw [e0,List.length_append];rfl,by rw [e0,List.map_append];rfl,by have:=z_lI t 0;omega,by have:=z_lI t 0;show (preT t 0).length*1<=_;omega,?_⟩
 intro A2 c2 _ _ _
 have hSub: ∀ {n:Nat} {F:List Fact},Sub (z_cU w (Un [])) n [⟨0,z_ad,t.cells.map SL.v⟩] F [⟨0,z_ad,t.cells.map SL.v⟩] []:=fun {n F}=>Sub.of (List.Sublist.refl _) (List.nil_sublist _)
 refine z_af g z_jj (by kernel_rfl) [⟨0,z_ad,t.cells.map SL.v⟩] [] hSub ?_
 have hs1: ∀(j:Nat) (n:Nat),(numsT t)[j]?=some n->preT t (j+1)=preT t j++be 8 n:=fun j n hx=>by
  unfold preT
  rw [List.take_add_one,hx,List.flatMap_append,<-List.append_assoc]
  simp
 have hpl:=z_lI t
 refine z_aa [] (fun β w' hs=>z_nE w' t.serial 8 ht.s (by decide)) ?_
 rintro v Fs ⟨B0,d0,rfl,_,_,rfl⟩
 refine ⟨hSub,?_⟩
 have q0:=hs1 0 t.serial rfl
 have b0:=z_ay 8 t.serial
 refine ⟨2,(preT t 0).length,(preT t 1).length,(preT t 0).map byte,(be 8 t.serial).map byte,(preT t 1).map byte,rfl,fun β w' hs=>z_aj (hs.get 0 rfl),z_as _,by rw [q0,List.length_append],by rw [q0,List.map_append],by have:=hpl 1;omega,by have:=hpl 1;show (preT t 1).length*1<=_;omega,?_⟩
 intro E0 e0 _ _ _
 refine ⟨hSub,?_⟩
 refine z_aa [] (fun β w' hs=>z_nE w' t.fro 8 ht.f (by decide)) ?_
 rintro v Fs ⟨B1,d1,rfl,_,_,rfl⟩
 refine ⟨hSub,?_⟩
 have q1:=hs1 1 t.fro rfl
 have b1:=z_ay 8 t.fro
 refine ⟨3,(preT t 1).length,(preT t 2).length,(preT t 1).map byte,(be 8 t.fro).map byte,(preT t 2).map byte,rfl,fun β w' hs=>z_aj (hs.get 0 rfl),z_as _,by rw [q1,List.length_append],by rw [q1,List.map_append],by have:=hpl 2;omega,by have:=hpl 2;show (preT t 2).length*1<=_;omega,?_⟩
 intro E1 e1 _ _ _
 refine ⟨hSub,?_⟩
 refine z_aa [] (fun β w' hs=>z_nE w' t.til 8 ht.l (by decide)) ?_
 rintro v Fs ⟨B2,d2,rfl,_,_,rfl⟩
 refine ⟨hSub,?_⟩
 have q2:=hs1 2 t.til rfl
 have b2:=z_ay 8 t.til
 refine ⟨4,(preT t 2).length,(preT t 3).length,(preT t 2).map byte,(be 8 t.til).map byte,(preT t 3).map byte,rfl,fun β w' hs=>z_aj (hs.get 0 rfl),z_as _,by rw [q2,List.length_append],by rw [q2,List.map_append],by have:=hpl 3;omega,by have:=hpl 3;show (preT t 3).length*1<=_;omega,?_⟩
 intro E2 e2 _ _ _
 refine ⟨hSub,?_⟩
 refine z_aa [] (fun β w' hs=>z_nE w' t.gen 8 ht.g (by decide)) ?_
 rintro v Fs ⟨B3,d3,rfl,_,_,rfl⟩
 refine ⟨hSub,?_⟩
 have q3:=hs1 3 t.gen rfl
 have b3:=z_ay 8 t.gen
 refine ⟨5,(preT t 3).length,(preT t 4).length,(preT t 3).map byte,(be 8 t.gen).map byte,(preT t 4).map byte,rfl,fun β w' hs=>z_aj (hs.get 0 rfl),z_as _,by rw [q3,List.length_append],by rw [q3,List.map_append],by have:=hpl 4;omega,by have:=hpl 4;show (preT t 4).length*1<=_;omega,?_⟩
 intro E3 e3 _ _ _
 refine ⟨hSub,?_⟩
 intro b4
 have hpl4:=hpl 4
 have p0:pre2T t 0=preT t 4:=by unfold pre2T;simp
 have hp2: ∀j,(pre2T t j).length<=200:=fun j=>by
  unfold pre2T
  rw [List.length_append]
  have h:(((txtsT t).take j).flatMap txtL).length<=((txtsT t).flatMap txtL).length:=by
   have e:=congrArg (fun l=>(l.flatMap txtL).length) (List.take_append_drop j (txtsT t))
   simp only [List.flatMap_append,List.length_append] at e
   omega
  have h2:((txtsT t).flatMap txtL).length=t.ten.length+1+(t.usr.length+1+(t.rol.length+1)):=by simp [txtsT,txtL];omega
  omega
 refine z_ag (ι:=Nat×Option Addr×Nat) 1 (fun j=>[(4,.c (.v (.slice j.2.1 (pre2T t j.1).length j.2.2))),(41,.c (.v (.slice (some ⟨b4,0,none⟩) 3 3))),(42,.c (.v (.int .i64 3))),(43,.c (.v (.int .i64 (j.1:Int))))]) (fun _=>[]) (fun j=>[rowF z_ak 1 (.slice (some ⟨b4,0,none⟩) 3 3) 3 ((txtsT t).map fun l=>Value.string (mkS l)),browF z_ab j.2.1 (pre2T t j.1) j.2.2])
  (fun j=>j.1<=3) (fun j=>3 - j.1) (0,E3,e3) (Nat.zero_le _) (Ent.mk' ⟨by rw [p0];rfl,rfl,rfl,rfl,trivial⟩ rfl (fun β w' hs=>by rw [p0];exact (hs.keepB (List.nil_sublist _)).perm [0,6])) g ?_
 rintro ⟨i,A5,c5⟩ hi
 simp only at hi
 have hpi:=hp2 i
 refine BIf.dec (fun hlt2=>?_) (fun hge2=>?_)
 ·have hlt20:(i:Int)<3:=hlt2
  obtain ⟨l,hx,hxm⟩:=at_lt (l:=txtsT t) (k:=i) (by show i<3;omega)
  refine ⟨⟨b4,0,none⟩,i,rfl,rfl,by omega,.string (mkS l),fun β w' hs=>Rd.cell1 (show Rd 1 (some ⟨b4,0,none⟩) 3 ((txtsT t).map fun l=>Value.string (mkS l)) w' from z_aj (hs.get 0 rfl)) (by rw [List.getElem?_map,hx];rfl),?_⟩
  have hl32:l.length<=32:=by
   simp only [txtsT,List.mem_cons,List.not_mem_nil,or_false] at hxm
   rcases hxm with rfl | rfl | rfl
   ·exact l1
   ·exact l2
   ·exact l3
  have hs2:pre2T t (i+1)=(pre2T t i++[UInt8.ofNat l.length])++l:=by
   unfold pre2T
   rw [List.take_add_one,hx,List.flatMap_append,<-List.append_assoc]
   simp [txtL]
  have hbl:byte (UInt8.ofNat l.length)= .int .u8 (l.length:Int):=z_nd _ (by omega)
  refine ⟨(l.length:Int),by show IntKind.u8.wrap (l.length:Int)=_;rw [wrap_u8];omega,?_⟩
  intro b5
  refine ⟨2,(pre2T t i).length,(pre2T t i++[UInt8.ofNat l.length]).length,(pre2T t i).map byte,[Value.int .u8 (l.length:Int)],(pre2T t i++[UInt8.ofNat l.length]).map byte,rfl,fun β w' hs=>z_aj (hs.get 0 rfl),fun u hu=>by obtain rfl:=List.mem_singleton.1 hu;rfl,by rw [List.length_append];rfl,by rw [List.map_append,<-hbl];rfl,by rw [List.length_append,hml];show _+1<=_;omega,by rw [List.length_append];show (_+1)*1<=_;omega,?_⟩
  intro A6 c6 _ _ _
  have hpi1:=hp2 (i+1)
  refine ⟨2,(pre2T t i++[UInt8.ofNat l.length]).length,l.length,(pre2T t (i+1)).length,(pre2T t i++[UInt8.ofNat l.length]).map byte,l.map byte,(pre2T t (i+1)).map byte,rfl,⟨rfl,rfl,by rw [z_eq]⟩,by rw [hs2];exact List.length_append.symm,by rw [hs2];exact List.map_append.symm,by omega,by show (pre2T t (i+1)).length*1<=_;omega,?_⟩
  intro A7 c7 _ _ _
  refine ⟨((i+1:Nat):Int),by rw [wrap_i64 (by omega) (by omega)];rfl,?_⟩
  exact ⟨(i+1,A7,c7),by show i+1<=3;omega,by show 3 - (i+1)<3 - i;omega,Ent.mk' ⟨rfl,rfl,rfl,rfl,trivial⟩ rfl (fun β w' hs=>hs.perm [1,2])⟩
 ·have hge20: ¬(i:Int)<3:=hge2
  obtain rfl:i=3:=by omega
  have e3:pre2T t 3=bodyL t:=by
   unfold pre2T preT bodyL
   simp [numsT,txtsT]
  rw [e3] at *
  intro β w' hs
  exact hs.fin [1] (.inl ⟨hr,A5,c5,rfl,z_ic (hs.get 1 rfl),rfl⟩)
end Go.Proofs.YtfomhhkoamapmaaGreatDoor.Sx
namespace Go.Proofs.YtfomhhkoamapmaaGreatDoor.Sx
open Go
attribute [local irreducible] Calls
theorem z_yC (w:World) (A B:Option Addr) (l m:List UInt8) (c d:Nat) (h1:Bs w A l) (h2:Bs w B m):Pu Tryz.prog z_df #[.slice A l.length c,.slice B m.length d] w (.bool (decide (l=m))):=pu_of (z_ra w A B l m c d h1 h2)
theorem z_wr {s:List UInt8} {j:Nat} (hj:s[j]?=some 46) (hn:(46:UInt8)∉s.take j):(46:UInt8)∈s/\dotA s=s.take j/\dotB s=s.drop (j+1):=by
 have hl:j<s.length:=(List.getElem?_eq_some_iff.1 hj).1
 have e:s=s.take j++46::s.drop (j+1):=by
  conv=>lhs;rw [<-List.take_append_drop j s]
  rw [List.drop_eq_getElem_cons hl]
  congr 2
  exact (List.getElem?_eq_some_iff.1 hj).2
 obtain ⟨h1,h2⟩:=z_v2 (b:=s.drop (j+1)) hn
 rw [<-e] at h1 h2
 exact ⟨by rw [e];simp,h1,h2⟩
open Classical in
theorem z_uo (w:World) (s:List UInt8) (hL:s.length<=1000000):Con Tryz.prog z_fc #[.string (mkS s)] w [] (splV s):=by
 have g:=z_ii w (Un [])
 refine z_ac (cx:=z_eW w (Un [])) g z_kT rfl rfl (β:=Va.z) [.c (.v (.string (mkS s)))] 0 [] [] rfl rfl (Sat.start rfl) ?_
 have hz:=z_gN s
 refine BIf.dec (fun h1=>?_) (fun h1=>?_)
 ·have h10:((mkS s).size:Int)>4096:=h1
  intro β w' hs
  refine hs.fin [] (.inr ⟨3,?_,.inl rfl,rfl,rfl⟩)
  unfold splitT
  rw [if_pos (by omega)]
 have h10: ¬((mkS s).size:Int)>4096:=h1
 refine z_ag (ι:=Nat) 0 (fun j=>[(0,.c (.v (.string (mkS s)))),(5,.c (.v (.int .i64 (j:Int))))]) (fun _=>[]) (fun _=>[]) (fun j=>j<=s.length/\(46:UInt8)∉s.take j) (fun j=>s.length - j) (0:Nat) ⟨Nat.zero_le _,(fun h=>by cases h)⟩ (Ent.mk' ⟨rfl,rfl,trivial⟩ rfl (fun β w' hs=>hs)) g ?_
 rintro j ⟨hj,hn⟩
 refine BIf.dec (fun hlt=>?_) (fun hge=>?_)
 ·have hlt0:(j:Int)<((mkS s).size:Int):=hlt
  obtain ⟨x,hx,_⟩:=at_lt (l:=s) (k:=j) (by omega)
  refine ⟨j,x,rfl,by show (mkS s).data.toList[j]?=some x;rw [z_eq];exact hx,?_⟩
  refine BIf.not (BIf.dec (fun he=>?_) (fun hne=>?_))
  rotate_left
  ·have hne0: ¬(x.toNat:Int)=46:=hne
   refine ⟨((j+1:Nat):Int),by rw [wrap_i64 (by omega) (by have:=maxLen_eq;omega)];rfl,?_⟩
   refine ⟨j+1,⟨by omega,?_⟩,by show s.length - (j+1)<s.length - j;omega,Ent.mk' ⟨rfl,rfl,trivial⟩ rfl (fun β w' hs=>hs)⟩
   rw [List.take_add_one,hx]
   intro q
   rcases List.mem_append.1 q with q | q
   ·exact hn q
   ·obtain rfl:=List.mem_singleton.1 q
    exact hne0 rfl
  have he0:(x.toNat:Int)=46:=he
  obtain rfl:x=46:=UInt8.toNat_inj.1 (by show x.toNat=46;omega)
  obtain ⟨hd,hA,hB⟩:=z_wr hx hn
  refine BIf.dec (fun h=>absurd (show (j:Int)=((mkS s).size:Int) from h) (by omega)) (fun _=>?_)
  have hjl:j<s.length:=(List.getElem?_eq_some_iff.1 hx).1
  have hml:=maxLen_eq
  refine ⟨j,0,rfl,rfl,by omega,Nat.zero_le _,?_⟩
  refine z_aa [] (R:=decOutP (decU (dotA s))) (fun β w' hs=>by
   have h:=z_rd w' (dotA s) true (by rw [hA,List.length_take];omega)
   have e:mkS (dotA s)=(mkS s).extract 0 j:=by rw [hA,z_qw]
   rw [e] at h
   exact h) ?_
  rintro v Fs ⟨A,b,c,e,rfl,he,hc,rfl⟩
  refine ⟨((j+1:Nat):Int),by rw [wrap_i64 (by omega) (by omega)];rfl,?_⟩
  refine ⟨(mkS s).size,j+1,rfl,rfl,Nat.le_refl _,by omega,?_⟩
  refine z_aa [] (R:=decOutP (decU (dotB s))) (fun β w' hs=>by
   have h:=z_rd w' (dotB s) true (by rw [hB,List.length_drop];omega)
   have e:mkS (dotB s)=(mkS s).extract (j+1) (mkS s).size:=by rw [hB,z_ta]
   rw [e] at h
   exact h) ?_
  rintro v Fs ⟨B,m,d,f,rfl,hf,hdc,rfl⟩
  rcases he with ⟨rfl,he⟩ | ⟨he0,he⟩
  rotate_left
  ·refine BIf.not (BIf.dec (fun q=>absurd q he0) (fun _=>?_))
   intro β w' hs
   exact hs.fin [] (.inr ⟨4,z_gI (by omega) (fun b m _ q=>by rw [he] at q;cases q),.inr rfl,rfl,rfl⟩)
  rcases hf with ⟨rfl,hf⟩ | ⟨hf0,hf⟩
  rotate_left
  ·refine BIf.not (BIf.dec (fun q=>absurd q hf0) (fun _=>?_))
   intro β w' hs
   exact hs.fin [] (.inr ⟨4,z_gI (by omega) (fun b m _ _ q=>by rw [hf] at q;cases q),.inr rfl,rfl,rfl⟩)
  refine BIf.not (BIf.dec (fun h2=>?_) (fun h2=>?_))
  ·have h20:(m.length:Int)=32:=h2
   intro β w' hs
   exact hs.fin [1,0] (.inl ⟨b,m,A,c,B,d,z_s6 hd (by omega) he hf (by omega),by have:=z_ts he;rw [hA,List.length_take] at this;omega,by omega,rfl,hc,hdc,rfl⟩) rfl rfl rfl ⟨rfl,rfl,trivial⟩
  ·have h20: ¬(m.length:Int)=32:=h2
   intro β w' hs
   exact hs.fin [] (.inr ⟨4,z_gI (by omega) (fun b' m' _ _ q h=>by rw [hf] at q;injection q with q;subst q;exact h20 (by omega)),.inr rfl,rfl,rfl⟩)
 ·have hge0: ¬(j:Int)<((mkS s).size:Int):=hge
  refine BIf.dec (fun _=>?_) (fun h=>absurd (show (j:Int)=((mkS s).size:Int) by omega) h)
  intro β w' hs
  have hn2:(46:UInt8)∉s:=by rw [<-List.take_of_length_le (show s.length<=j by omega)];exact hn
  exact hs.fin [] (.inr ⟨4,z_gI (by omega) (fun b m q=>absurd q hn2),.inr rfl,rfl,rfl⟩)
def rTxt (l:List UInt8):Option (List UInt8×List UInt8):=match l with
 | []=>none
 | n::r=>if r.length<n.toNat then none else some (r.take n.toNat,r.drop n.toNat)
def rNum (p:List UInt8) (i j:Nat):Nat:=numB ((p.drop i).take (j - i))
def rTs:Nat->List UInt8->Option (List (List UInt8)×List UInt8)
 | 0,l=>some ([],l)
 | n+1,l=>match rTs n l with
  | none=>none
  | some (ts,r)=>match rTxt r with
   | none=>none
   | some (a,r')=>some (ts++[a],r')
theorem z_sO {l:List UInt8} {n:Nat} (h:rTs n l=none): ∀m,rTs (n+m) l=none
 | 0=>h
 | m+1=>by
  show (match rTs (n+m) l with | none=>none | some (ts,r)=>_)=none
  rw [z_sO h m]
theorem z_qz {l p:List UInt8} (h:l.length<256):rTxt (txtL l++p)=some (l,p):=by
 show (if (l++p).length<(UInt8.ofNat l.length).toNat then none else some ((l++p).take (UInt8.ofNat l.length).toNat,(l++p).drop (UInt8.ofNat l.length).toNat))=_
 rw [ofNat_toNat _ h,if_neg (by rw [List.length_append];omega),List.take_left,List.drop_left]
def rPar (p:List UInt8):Option Tk:=if p.length<37 then none else match rTs 3 (p.drop 37) with
 | some ([a,b,c],_)=>some ⟨rNum p 1 5,rNum p 5 13,rNum p 13 21,rNum p 21 29,rNum p 29 37,a,b,c⟩
 | _=>none
theorem z_oe {X Y Z:List UInt8} {i j:Nat} (hi:X.length=i) (hj:Y.length=j - i):rNum (X++(Y++Z)) i j=numB Y:=by
 unfold rNum
 rw [<-hi,List.drop_left,hi,<-hj,List.take_left]
theorem z_uJ {t:Tk} (h:t.Right):rPar (bodyL t)=some t:=by
 have l1:=z_bg h.ten
 have l2:=z_eg h.usr
 have l3:=z_bg h.rol
 have q2:=h.e2
 have q3:=h.s2
 have q4:=h.g2
 have q5:=h.lt
 have q6:=h.le
 have e0:([1]++(be 4 t.epoch++(be 8 t.serial++(be 8 t.fro++(be 8 t.til++be 8 t.gen))))).length=37:=by simp [z_ay]
 have e1:bodyL t=([1]++(be 4 t.epoch++(be 8 t.serial++(be 8 t.fro++(be 8 t.til++be 8 t.gen)))))++(txtL t.ten++(txtL t.usr++txtL t.rol)):=by simp [bodyL]
 have hd:(bodyL t).drop 37=txtL t.ten++(txtL t.usr++txtL t.rol):=by rw [e1,<-e0,List.drop_left]
 have hl: ¬(bodyL t).length<37:=by rw [e1,List.length_append,e0];omega
 have ht:rTs 3 (txtL t.ten++(txtL t.usr++txtL t.rol))=some ([t.ten,t.usr,t.rol],[]):=by
  simp only [rTs]
  rw [z_qz (by omega)]
  simp only
  rw [z_qz (by omega)]
  simp only
  rw [show txtL t.rol=txtL t.rol++[] from (List.append_nil _).symm,z_qz (by omega)]
  rfl
 have p4:(256:Nat)^4=4294967296:=by decide
 have p8:(256:Nat)^8=18446744073709551616:=by decide
 have n1:rNum (bodyL t) 1 5=t.epoch:=by
  rw [show bodyL t=[1]++(be 4 t.epoch++(be 8 t.serial++(be 8 t.fro++(be 8 t.til++(be 8 t.gen++(txtL t.ten++(txtL t.usr++txtL t.rol))))))) from rfl,z_oe (i:=1) (j:=5) rfl (z_ay 4 _),z_ln 4 _ (by omega) (by omega)]
 have n2:rNum (bodyL t) 5 13=t.serial:=by
  rw [show bodyL t=([1]++be 4 t.epoch)++(be 8 t.serial++(be 8 t.fro++(be 8 t.til++(be 8 t.gen++(txtL t.ten++(txtL t.usr++txtL t.rol)))))) by simp [bodyL],z_oe (i:=5) (j:=13) (by simp [z_ay]) (z_ay 8 _),z_ln 8 _ (by omega) (by omega)]
 have n3:rNum (bodyL t) 13 21=t.fro:=by
  rw [show bodyL t=([1]++be 4 t.epoch++be 8 t.serial)++(be 8 t.fro++(be 8 t.til++(be 8 t.gen++(txtL t.ten++(txtL t.usr++txtL t.rol))))) by simp [bodyL],z_oe (i:=13) (j:=21) (by simp [z_ay]) (z_ay 8 _),z_ln 8 _ (by omega) (by omega)]
 have n4:rNum (bodyL t) 21 29=t.til:=by
  rw [show bodyL t=([1]++be 4 t.epoch++be 8 t.serial++be 8 t.fro)++(be 8 t.til++(be 8 t.gen++(txtL t.ten++(txtL t.usr++txtL t.rol)))) by simp [bodyL],z_oe (i:=21) (j:=29) (by simp [z_ay]) (z_ay 8 _),z_ln 8 _ (by omega) (by omega)]
 have n5:rNum (bodyL t) 29 37=t.gen:=by
  rw [show bodyL t=([1]++be 4 t.epoch++be 8 t.serial++be 8 t.fro++be 8 t.til)++(be 8 t.gen++(txtL t.ten++(txtL t.usr++txtL t.rol))) by simp [bodyL],z_oe (i:=29) (j:=37) (by simp [z_ay]) (z_ay 8 _),z_ln 8 _ (by omega) (by omega)]
 unfold rPar
 rw [if_neg hl,hd,ht,n1,n2,n3,n4,n5]
theorem z_r0 {p:List UInt8} (h: ∀t,rPar p=some t->t.Right->bodyL t=p->False):readT p=none:=by
 cases hr:readT p with
 | none=>rfl
 | some t=>
  obtain ⟨h1,h2⟩:=read_iff.1 hr
  exact (h t (by rw [<-h2];exact z_uJ h1) h1 h2).elim
theorem z_sT {p:List UInt8} (h:rPar p=none):readT p=none:=z_r0 fun t q=>by rw [h] at q;cases q
structure RdI where
 ts:List (List UInt8)
 r:List UInt8
 R:Option Addr
 cR:Nat
 L:Option Addr
 cL:Nat
open Classical in
theorem z_v7 (w:World) (A:Option Addr) (p:List UInt8) (c:Nat) (hc:p.length<=c) (hL:p.length<=1000000) (hA:Bs w A p):Con Tryz.prog z_fV #[.slice A p.length c] w [] fun v Fs=>readV p v/\Fs=[]:=by
 have g:=z_iS w (Un [])
 refine z_ds (cx:=z_c0 w (Un [])) g z_ly rfl rfl (β:=Va.z) [.c (.v (.slice A p.length c))] 0 [] [oldF w] rfl rfl (z_aS rfl) ?_
 refine z_ae g ?_
 refine z_ae g ?_
 refine BIf.dec (fun h1=>?_) (fun h1=>?_)
 ·have h10:(p.length:Int)<37:=h1
  intro β w' hs
  exact (hs.keepB (List.nil_sublist _)).fin [] ⟨.inr ⟨z_sT (if_pos (by omega)),rfl⟩,rfl⟩
 have h10: ¬(p.length:Int)<37:=h1
 have hnm: ∀(i j:Nat) (w':World),(oldF w).p w'->i<=j->j<=37->Pu Tryz.prog z_dI #[.slice (cutA A c i 1) (j - i) (c - i)] w' (.int .u64 (rNum p i j:Int)):=fun i j w' ho hij hj=>by
  have hb:=Bs.cutB (i:=i) (j:=j) (hA.old ho) hc hij (by omega) rfl
  have h:=pu_of (num_c w' (cutA A c i 1) ((p.drop i).take (j - i)) (c - i) hb (by rw [z_o8,List.length_take];omega))
  rw [List.length_take,List.length_drop,Nat.min_eq_left (by omega)] at h
  exact h
 refine z_aM (ι:=Unit) g (fun _=>True) 2 (fun _=>[(0,.c (.v (.slice A p.length c))),(2,.c (.p 0 0)),(4,.c (.p 1 0))])
  (fun _=>[⟨1,z_ad,(Tk.cells ⟨rNum p 1 5,rNum p 5 13,rNum p 13 21,rNum p 21 29,rNum p 29 37,[],[],[]⟩).map SL.v⟩,⟨0,z_ad,tk0.cells.map SL.v⟩]) (fun _=>[oldF w]) ?_ ?_
 rotate_left
 ·refine z_af g z_kj (by kernel_rfl) [⟨0,z_ad,tk0.cells.map SL.v⟩] [oldF w] Sub.refl ?_
  refine ⟨c,5,1,5 - 1,c - 1,_,rfl,rfl,rfl,by omega,by omega,by omega,rfl,rfl,rfl,?_⟩
  refine ⟨c,13,5,13 - 5,c - 5,_,rfl,rfl,rfl,by omega,by omega,by omega,rfl,rfl,rfl,?_⟩
  refine ⟨c,21,13,21 - 13,c - 13,_,rfl,rfl,rfl,by omega,by omega,by omega,rfl,rfl,rfl,?_⟩
  refine ⟨c,29,21,29 - 21,c - 21,_,rfl,rfl,rfl,by omega,by omega,by omega,rfl,rfl,rfl,?_⟩
  refine ⟨c,37,29,37 - 29,c - 29,_,rfl,rfl,rfl,by omega,by omega,by omega,rfl,rfl,rfl,?_⟩
  refine ⟨?_,?_⟩
  ·skip
   refine z_ah (v:= .int .u64 (rNum p 1 5:Int)) (fun β w' hs=>hnm 1 5 w' (hs.get 0 rfl) (by decide) (by decide)) ?_
   refine ⟨Sub.refl,?_⟩
   refine ⟨?_,?_⟩
   ·skip
    refine z_ah (v:= .int .u64 (rNum p 5 13:Int)) (fun β w' hs=>hnm 5 13 w' (hs.get 0 rfl) (by decide) (by decide)) ?_
    refine ⟨Sub.refl,?_⟩
    refine ⟨?_,?_⟩
    ·skip
     refine z_ah (v:= .int .u64 (rNum p 13 21:Int)) (fun β w' hs=>hnm 13 21 w' (hs.get 0 rfl) (by decide) (by decide)) ?_
     refine ⟨Sub.refl,?_⟩
     refine ⟨?_,?_⟩
     ·skip
      refine z_ah (v:= .int .u64 (rNum p 21 29:Int)) (fun β w' hs=>hnm 21 29 w' (hs.get 0 rfl) (by decide) (by decide)) ?_
      refine ⟨Sub.refl,?_⟩
      refine ⟨?_,?_⟩
      ·skip
       refine z_ah (v:= .int .u64 (rNum p 29 37:Int)) (fun β w' hs=>hnm 29 37 w' (hs.get 0 rfl) (by decide) (by decide)) ?_
       refine ⟨Sub.refl,?_⟩
       refine ⟨Sub.of (List.sublist_cons_self _ _) (List.Sublist.refl _),?_⟩
       refine ⟨Sub.of (List.sublist_cons_self _ _) (List.Sublist.refl _),?_⟩
       exact EntX.of () trivial (Ent.mk' ⟨rfl,rfl,rfl,trivial⟩ rfl (fun β w' hs=>hs))
      ·refine ⟨Sub.of (List.sublist_cons_self _ _) (List.Sublist.refl _),?_⟩
       refine z_ah (v:= .int .u64 (rNum p 29 37:Int)) (fun β w' hs=>hnm 29 37 w' (hs.get 0 rfl) (by decide) (by decide)) ?_
       refine ⟨Sub.of (List.sublist_cons_self _ _) (List.Sublist.refl _),?_⟩
       refine ⟨Sub.of (List.sublist_cons_self _ _) (List.Sublist.refl _),?_⟩
       exact EntX.of () trivial (Ent.mk' ⟨rfl,rfl,rfl,trivial⟩ rfl (fun β w' hs=>hs))
     ·refine ⟨Sub.of (List.sublist_cons_self _ _) (List.Sublist.refl _),?_⟩
      refine z_ah (v:= .int .u64 (rNum p 21 29:Int)) (fun β w' hs=>hnm 21 29 w' (hs.get 0 rfl) (by decide) (by decide)) ?_
      refine ⟨Sub.of (List.sublist_cons_self _ _) (List.Sublist.refl _),?_⟩
      refine z_ah (v:= .int .u64 (rNum p 29 37:Int)) (fun β w' hs=>hnm 29 37 w' (hs.get 0 rfl) (by decide) (by decide)) ?_
      refine ⟨Sub.of (List.sublist_cons_self _ _) (List.Sublist.refl _),?_⟩
      refine ⟨Sub.of (List.sublist_cons_self _ _) (List.Sublist.refl _),?_⟩
      exact EntX.of () trivial (Ent.mk' ⟨rfl,rfl,rfl,trivial⟩ rfl (fun β w' hs=>hs))
    ·refine ⟨Sub.of (List.sublist_cons_self _ _) (List.Sublist.refl _),?_⟩
     refine z_ah (v:= .int .u64 (rNum p 13 21:Int)) (fun β w' hs=>hnm 13 21 w' (hs.get 0 rfl) (by decide) (by decide)) ?_
     refine ⟨Sub.of (List.sublist_cons_self _ _) (List.Sublist.refl _),?_⟩
     refine z_ah (v:= .int .u64 (rNum p 21 29:Int)) (fun β w' hs=>hnm 21 29 w' (hs.get 0 rfl) (by decide) (by decide)) ?_
     refine ⟨Sub.of (List.sublist_cons_self _ _) (List.Sublist.refl _),?_⟩
     refine z_ah (v:= .int .u64 (rNum p 29 37:Int)) (fun β w' hs=>hnm 29 37 w' (hs.get 0 rfl) (by decide) (by decide)) ?_
     refine ⟨Sub.of (List.sublist_cons_self _ _) (List.Sublist.refl _),?_⟩
     refine ⟨Sub.of (List.sublist_cons_self _ _) (List.Sublist.refl _),?_⟩
     exact EntX.of () trivial (Ent.mk' ⟨rfl,rfl,rfl,trivial⟩ rfl (fun β w' hs=>hs))
   ·refine ⟨Sub.of (List.sublist_cons_self _ _) (List.Sublist.refl _),?_⟩
    refine z_ah (v:= .int .u64 (rNum p 5 13:Int)) (fun β w' hs=>hnm 5 13 w' (hs.get 0 rfl) (by decide) (by decide)) ?_
    refine ⟨Sub.of (List.sublist_cons_self _ _) (List.Sublist.refl _),?_⟩
    refine z_ah (v:= .int .u64 (rNum p 13 21:Int)) (fun β w' hs=>hnm 13 21 w' (hs.get 0 rfl) (by decide) (by decide)) ?_
    refine ⟨Sub.of (List.sublist_cons_self _ _) (List.Sublist.refl _),?_⟩
    refine z_ah (v:= .int .u64 (rNum p 21 29:Int)) (fun β w' hs=>hnm 21 29 w' (hs.get 0 rfl) (by decide) (by decide)) ?_
    refine ⟨Sub.of (List.sublist_cons_self _ _) (List.Sublist.refl _),?_⟩
    refine z_ah (v:= .int .u64 (rNum p 29 37:Int)) (fun β w' hs=>hnm 29 37 w' (hs.get 0 rfl) (by decide) (by decide)) ?_
    refine ⟨Sub.of (List.sublist_cons_self _ _) (List.Sublist.refl _),?_⟩
    refine ⟨Sub.of (List.sublist_cons_self _ _) (List.Sublist.refl _),?_⟩
    exact EntX.of () trivial (Ent.mk' ⟨rfl,rfl,rfl,trivial⟩ rfl (fun β w' hs=>hs))
  ·refine ⟨Sub.of (List.sublist_cons_self _ _) (List.Sublist.refl _),?_⟩
   refine z_ah (v:= .int .u64 (rNum p 1 5:Int)) (fun β w' hs=>hnm 1 5 w' (hs.get 0 rfl) (by decide) (by decide)) ?_
   refine ⟨Sub.of (List.sublist_cons_self _ _) (List.Sublist.refl _),?_⟩
   refine z_ah (v:= .int .u64 (rNum p 5 13:Int)) (fun β w' hs=>hnm 5 13 w' (hs.get 0 rfl) (by decide) (by decide)) ?_
   refine ⟨Sub.of (List.sublist_cons_self _ _) (List.Sublist.refl _),?_⟩
   refine z_ah (v:= .int .u64 (rNum p 13 21:Int)) (fun β w' hs=>hnm 13 21 w' (hs.get 0 rfl) (by decide) (by decide)) ?_
   refine ⟨Sub.of (List.sublist_cons_self _ _) (List.Sublist.refl _),?_⟩
   refine z_ah (v:= .int .u64 (rNum p 21 29:Int)) (fun β w' hs=>hnm 21 29 w' (hs.get 0 rfl) (by decide) (by decide)) ?_
   refine ⟨Sub.of (List.sublist_cons_self _ _) (List.Sublist.refl _),?_⟩
   refine z_ah (v:= .int .u64 (rNum p 29 37:Int)) (fun β w' hs=>hnm 29 37 w' (hs.get 0 rfl) (by decide) (by decide)) ?_
   refine ⟨Sub.of (List.sublist_cons_self _ _) (List.Sublist.refl _),?_⟩
   refine ⟨Sub.of (List.sublist_cons_self _ _) (List.Sublist.refl _),?_⟩
   exact EntX.of () trivial (Ent.mk' ⟨rfl,rfl,rfl,trivial⟩ rfl (fun β w' hs=>hs))
 rintro ⟨⟩ -
 have hml:=maxLen_eq
 have bad: ∀n,rTs n (p.drop 37)=none->n<=3->rPar p=none:=fun n h hn=>by
  have h3:=z_sO h (3 - n)
  rw [show n+(3 - n)=3 by omega] at h3
  unfold rPar
  rw [if_neg (by omega),h3]
 refine z_ae g ?_
 refine ⟨c,p.length,37,p.length - 37,c - 37,_,rfl,rfl,rfl,by omega,by omega,by omega,rfl,rfl,rfl,?_⟩
 refine z_ae g ?_
 refine z_ae g ?_
 have hdl:(p.drop 37).length=p.length - 37:=List.length_drop
 refine z_ag (ι:=RdI) 2 (fun i=>[(0,.c (.v (.slice A p.length c))),(2,.c (.p 0 0)),(4,.c (.p 1 0)),(5,.c (.v (.slice i.R i.r.length i.cR))),(6,.c (.v (.slice i.L i.ts.length i.cL)))])
  (fun _=>[⟨1,z_ad,(Tk.cells ⟨rNum p 1 5,rNum p 5 13,rNum p 13 21,rNum p 21 29,rNum p 29 37,[],[],[]⟩).map SL.v⟩,⟨0,z_ad,tk0.cells.map SL.v⟩]) (fun i=>[rowF z_ak 1 (.slice i.L i.ts.length i.cL) i.ts.length (i.ts.map fun l=>Value.string (mkS l)),oldF w])
  (fun i=>i.ts.length<=3/\rTs i.ts.length (p.drop 37)=some (i.ts,i.r)/\Lies A i.R p i.r/\i.r.length<=i.cR/\i.r.length<=1000000/\(∀x∈i.ts,x.length<256)/\(0<i.ts.length-> ∃ad,i.L=some ad)) (fun i=>3 - i.ts.length) ⟨[],p.drop 37,cutA A c 37 1,c - 37,none,0⟩ ⟨Nat.zero_le _,rfl,Lies.drop hc (by omega),by show (p.drop 37).length<=c - 37;omega,by show (p.drop 37).length<=_;omega,(fun x h=>by cases h),fun h=>absurd h (Nat.lt_irrefl 0)⟩ (Ent.mk' ⟨rfl,rfl,rfl,by rw [hdl];rfl,rfl,trivial⟩ rfl (fun β w' hs=>(hs.nilRow z_ak 1).perm [0,1])) g ?_
 rintro ⟨ts,r,R,cR,L,cL⟩ ⟨hts,hrt,hl,hcR,hrm,hsm,hLa⟩
 simp only at hts hrt hl hcR hrm hsm hLa
 refine BIf.dec (fun hlt=>?_) (fun hge=>?_)
 ·have hlt0:(ts.length:Int)<3:=hlt
  simp only
  have hstop:rTxt r=none->readT p=none:=fun h=>z_sT (bad (ts.length+1) (by show (match rTs ts.length (p.drop 37) with | none=>none | some (ts,r)=>match rTxt r with | none=>none | some (a,r')=>some (ts++[a],r'))=none;rw [hrt];simp only [h]) (by omega))
  refine BIf.dec (fun h2=>?_) (fun h2=>?_)
  ·have h20:(r.length:Int)<1:=h2
   intro β w' hs
   exact (hs.keepB (List.nil_sublist _)).fin [] ⟨.inr ⟨hstop (by rw [List.length_eq_zero_iff.1 (show r.length=0 by omega)];rfl),rfl⟩,rfl⟩
  have h20: ¬(r.length:Int)<1:=h2
  obtain ⟨ad,hR⟩:=Bs.addr (hl.rd w hA) (by omega)
  obtain ⟨x,r',rfl⟩: ∃x r',r=x::r':=by
   cases r with
   | nil=>exact absurd (show (0:Int)<1 by decide) h20
   | cons x r'=>exact ⟨x,r',rfl⟩
  have hxl:=x.toNat_lt
  have hrl:(x::r').length=r'.length+1:=rfl
  have ld: ∀w':World,(oldF w).p w'->w'.cell? (ad.add (0*1))=some (byte x):=fun w' ho=>Rd.cell1 (show Rd 1 (some ad) (x::r').length ((x::r').map byte) w' from hR▸hl.rd w' (hA.old ho)) rfl
  have hll:=congrArg List.length (show p.drop 37=p.drop 37 from rfl)
  refine ⟨(r'.length:Int),by rw [wrap_i64 (by omega) (by omega)];omega,?_⟩
  refine ⟨ad,0,hR,rfl,by omega,byte x,fun β w' hs=>ld w' (hs.get 1 rfl),?_⟩
  refine ⟨(x.toNat:Int),by rw [wrap_i64 (by omega) (by omega)],?_⟩
  refine BIf.dec (fun h3=>?_) (fun h3=>?_)
  ·have h30:(r'.length:Int)<(x.toNat:Int):=h3
   intro β w' hs
   exact (hs.keepB (List.nil_sublist _)).fin [] ⟨.inr ⟨hstop (if_pos (by omega)),rfl⟩,rfl⟩
  have h30: ¬(r'.length:Int)<(x.toNat:Int):=h3
  refine ⟨ad,0,hR,rfl,by omega,byte x,fun β w' hs=>ld w' (hs.get 1 rfl),?_⟩
  refine ⟨(x.toNat:Int),by rw [wrap_i64 (by omega) (by omega)],?_⟩
  refine z_af g z_iU (by kernel_rfl) [⟨1,z_ad,(Tk.cells ⟨rNum p 1 5,rNum p 5 13,rNum p 13 21,rNum p 21 29,rNum p 29 37,[],[],[]⟩).map SL.v⟩,⟨0,z_ad,tk0.cells.map SL.v⟩] [oldF w] (subPerm [1]) ?_
  refine ⟨((1+x.toNat:Nat):Int),by rw [wrap_i64 (by omega) (by omega)];omega,?_⟩
  have hlt2:r'.length+1<=cR:=hcR
  refine ⟨cR,1+x.toNat,1,x.toNat,cR - 1,_,rfl,rfl,rfl,by omega,by omega,by omega,by omega,rfl,rfl,?_⟩
  have hxt:(r'.take x.toNat).length=x.toNat:=by rw [List.length_take];omega
  have rdx: ∀w':World,(oldF w).p w'->Rd 1 (cutA R cR 1 1) x.toNat ((r'.take x.toNat).map byte) w':=fun w' ho=>by
   have h:Rd 1 (cutA R cR 1 1) (r'.take x.toNat).length ((r'.take x.toNat).map byte) w':=Bs.cutB (i:=1) (j:=1+x.toNat) (m:=r'.take x.toNat) (hl.rd w' (hA.old ho)) hcR (by omega) (by omega) (by rw [show 1+x.toNat - 1=x.toNat by omega];rfl)
   rw [hxt] at h
   exact h
  refine ⟨r'.take x.toNat,fun β w' hs=>rdx w' (hs.get 0 rfl),?_⟩
  refine ⟨((1+x.toNat:Nat):Int),by rw [wrap_i64 (by omega) (by omega)];omega,?_⟩
  refine ⟨cR,r'.length+1,1+x.toNat,r'.length - x.toNat,cR - (1+x.toNat),_,rfl,rfl,rfl,by omega,by omega,by omega,by omega,rfl,rfl,?_⟩
  intro b1
  refine ⟨subPerm [2],?_⟩
  obtain ⟨u,hu⟩: ∃u,r'.take x.toNat=u:=⟨_,rfl⟩
  have hul:u.length=x.toNat:=by rw [<-hu];exact hxt
  have htx:rTxt (x::r')=some (u,r'.drop x.toNat):=by rw [<-hu];exact if_neg (by omega)
  refine ⟨1,ts.length,(ts++[u]).length,ts.map fun l=>Value.string (mkS l),[Value.string (mkS u)],(ts++[u]).map fun l=>Value.string (mkS l),rfl,fun β w' hs=>by rw [<-hu];exact z_aj (hs.get 0 rfl),(fun v hv=>by obtain rfl:=List.mem_singleton.1 hv;rfl),by rw [List.length_append];rfl,by rw [List.map_append];rfl,by rw [List.length_append,List.length_singleton];omega,by rw [List.length_append,List.length_singleton];show (_+1)*16<=_;omega,?_⟩
  intro A' c' _ _ hA'
  refine ⟨subPerm [2],?_⟩
  have hdx:(r'.drop x.toNat).length=r'.length - x.toNat:=List.length_drop
  have htl:(ts++[u]).length=ts.length+1:=by rw [List.length_append];rfl
  refine ⟨⟨ts++[u],r'.drop x.toNat,cutA R cR (1+x.toNat) 1,cR - (1+x.toNat),A',c'⟩,⟨by show (ts++[u]).length<=3;omega,?_,?_,by show (r'.drop x.toNat).length<=cR - (1+x.toNat);omega,by show (r'.drop x.toNat).length<=_;omega,?_,?_⟩,by show 3 - (ts++[u]).length<3 - ts.length;omega,Ent.mk' ⟨rfl,rfl,rfl,by rw [hdx];rfl,rfl,trivial⟩ rfl (fun β w' hs=>hs.perm [1,2])⟩
  ·show rTs (ts++[u]).length (p.drop 37)=some (ts++[u],r'.drop x.toNat)
   rw [htl]
   show (match rTs ts.length (p.drop 37) with | none=>none | some (ts,r)=>match rTxt r with | none=>none | some (a,r')=>some (ts++[a],r'))=_
   rw [hrt]
   simp only [htx]
  ·have h:=hl.trans (Lies.drop (n:=1+x.toNat) hcR (by omega))
   rw [show (x::r').drop (1+x.toNat)=r'.drop x.toNat by rw [Nat.add_comm];rfl] at h
   exact h
  ·intro y hy
   rcases List.mem_append.1 hy with hy | hy
   ·exact hsm y hy
   ·obtain rfl:=List.mem_singleton.1 hy
    omega
  ·intro _
   cases hA2:A' with
   | none=>exact absurd (hA' hA2).2 (by decide)
   | some ad=>exact ⟨ad,rfl⟩
 ·have hge0: ¬(ts.length:Int)<3:=hge
  obtain ⟨a,b,d,rfl⟩: ∃a b d,ts=[a,b,d]:=by
   match ts,hts,hge0 with
   | [a,b,d],_,_=>exact ⟨a,b,d,rfl⟩
   | [],_,h=>exact absurd (show ((0:Nat):Int)<3 by decide) h
   | [_],_,h=>exact absurd (show ((1:Nat):Int)<3 by decide) h
   | [_,_],_,h=>exact absurd (show ((2:Nat):Int)<3 by decide) h
   | _::_::_::_::_,h,_=>simp at h
  have hpar:rPar p=some ⟨rNum p 1 5,rNum p 5 13,rNum p 13 21,rNum p 21 29,rNum p 29 37,a,b,d⟩:=by
   unfold rPar
   rw [if_neg (by omega)]
   rw [show rTs 3 (p.drop 37)=some ([a,b,d],r) from hrt]
  refine z_ae g ?_
  refine z_af g z_iV (by kernel_rfl) [⟨0,z_ad,tk0.cells.map SL.v⟩] [rowF z_ak 1 (.slice L 3 cL) 3 ([a,b,d].map fun l=>Value.string (mkS l)),oldF w] (Sub.of (List.sublist_cons_self _ _) (List.Sublist.refl _)) ?_
  obtain ⟨ad,hL0⟩:=hLa (Nat.succ_pos _)
  have lds: ∀ {j:Nat} {u:List UInt8} {β:Va} {n:Nat} {H:List Bk} {F:List Fact} {w':World},Sat (z_c0 w (Un [])) β n H (rowF z_ak 1 (.slice L 3 cL) 3 ([a,b,d].map fun l=>Value.string (mkS l))::F) w'->[a,b,d][j]?=some u->w'.cell? (ad.add (j*1))=some (.string (mkS u)):=fun hs hu=>Rd.cell1 (show Rd 1 (some ad) 3 ([a,b,d].map fun l=>Value.string (mkS l)) _ from hL0▸z_aj (hs.get 0 rfl)) (by rw [List.getElem?_map,hu];rfl)
  refine ⟨ad,0,hL0,rfl,by show 0<3;decide,.string (mkS a),fun β w' hs=>lds hs rfl,?_⟩
  refine ⟨ad,1,hL0,rfl,by show 1<3;decide,.string (mkS b),fun β w' hs=>lds hs rfl,?_⟩
  refine ⟨ad,2,hL0,rfl,by show 2<3;decide,.string (mkS d),fun β w' hs=>lds hs rfl,?_⟩
  refine ⟨Sub.of (List.sublist_cons_self _ _) (List.Sublist.refl _),?_⟩
  refine z_aQ g ?_
  have hn8: ∀i j,j<=37->i<=j->j - i<=8->rNum p i j<18446744073709551616:=fun i j h1 h2 h3=>by
   have h:=z_lm (j - i) ((p.drop i).take (j - i)) (by rw [List.length_take,List.length_drop];omega) h3
   exact Nat.lt_of_lt_of_le h (show 256^(j - i)<=256^8 from Nat.pow_le_pow_right (by decide) h3)
  have ha:=hsm a (by simp)
  have hb:=hsm b (by simp)
  have hd:=hsm d (by simp)
  have hok:(⟨rNum p 1 5,rNum p 5 13,rNum p 13 21,rNum p 21 29,rNum p 29 37,a,b,d⟩:Tk).Ok:=⟨hn8 1 5 (by decide) (by decide) (by decide),hn8 5 13 (by decide) (by decide) (by decide),hn8 13 21 (by decide) (by decide) (by decide),hn8 21 29 (by decide) (by decide) (by decide),hn8 29 37 (by decide) (by decide) (by decide),by show a.length<=_;omega,by show b.length<=_;omega,by show d.length<=_;omega⟩
  refine z_aa [] (fun β w' hs=>z_oR w' ⟨rNum p 1 5,rNum p 5 13,rNum p 13 21,rNum p 21 29,rNum p 29 37,a,b,d⟩ hok) ?_
  generalize ht:(⟨rNum p 1 5,rNum p 5 13,rNum p 13 21,rNum p 21 29,rNum p 29 37,a,b,d⟩:Tk)=t at hok hpar ⊢
  rintro v Fs (⟨hRt,Ab,cb,rfl,hcb,rfl⟩ | ⟨hRt,rfl,rfl⟩)
  rotate_left
  ·intro β w' hs
   exact (hs.keepB (List.nil_sublist _)).fin [] ⟨.inr ⟨z_r0 (fun t' q h1 _=>by rw [hpar] at q;injection q with q;subst q;exact hRt h1),rfl⟩,rfl⟩
  refine z_ah (v:= .bool (decide (bodyL t=p))) (fun β w' hs=>z_yC w' Ab A (bodyL t) p cb c (z_aj (hs.get 0 rfl)) (hA.old (hs.get 2 rfl))) ?_
  refine BIf.not (BIf.dec (fun hq=>?_) (fun hq=>?_))
  ·intro β w' hs
   exact (hs.keepB (List.nil_sublist _)).fin [] ⟨.inl ⟨t,read_iff.2 ⟨hRt,hq⟩,hok,by rw [<-ht];rfl⟩,rfl⟩
  ·intro β w' hs
   exact (hs.keepB (List.nil_sublist _)).fin [] ⟨.inr ⟨z_r0 (fun t' q _ h2=>by rw [hpar] at q;injection q with q;subst q;exact hq h2),rfl⟩,rfl⟩
theorem z_sZ (t:Tk):0<(bodyL t).length:=by
 unfold bodyL
 simp
theorem rv_at {X Y:List Kn} {k:Kn} (h:((X++k::Y).map Kn.s).Pairwise (· < ·)):(k.s∈rvS (X++k::Y))↔k.rv=true:=by
 rw [List.map_append,List.map_cons,List.pairwise_append,List.pairwise_cons] at h
 obtain ⟨_,⟨h2,_⟩,h3⟩:=h
 constructor
 ·intro q
  obtain ⟨y,hy,hy2,hy3⟩:=rvS_mem.1 q
  rcases List.mem_append.1 hy with hy | hy
  ·have:=h3 y.s (List.mem_map.2 ⟨y,hy,rfl⟩) k.s (List.mem_cons_self ..)
   omega
  rcases List.mem_cons.1 hy with rfl | hy
  ·exact hy2
  ·have:=h2 y.s (List.mem_map.2 ⟨y,hy,rfl⟩)
   omega
 ·intro q
  exact rvS_mem.2 ⟨k,by simp,q,rfl⟩
theorem rv_no {L:List Kn} {s:Nat} (h: ∀x∈L,x.s≠s): ¬s∈rvS L:=fun q=>by
 obtain ⟨y,hy,_,hy3⟩:=rvS_mem.1 q
 exact h y hy hy3
theorem z_rv (w:World) (q:RD) (x:RR) (B:Bx.Box) (z:Lay) (s:List UInt8) (now:Nat) (ky:Int->Option (List UInt8)) (gone:Int->Bool) (hrb:q.rb=x.b) (hky: ∀e,RKy x B e (ky e)) (hgo: ∀i:Nat,gone (i:Int)=decide (i∈rvS q.L)) (hri:(q.L.map Kn.s).Pairwise (· < ·)) (hL:q.L.length<=1000) (hs1:s.length<=100000) (hn:x.es.length<=1000) (hma:x.master.length<=64) (hts:z.ts.map (·.1)=B.L) (hi:BInv B) (hBL:B.L.length<4096)
  (hm:Mem w [rdkF q,rbxF x.bx B z,rrF x,oddF 10]):
  Con Tryz.prog z_gb #[.pointer (some ⟨q.b,0,none⟩),.string (mkS s),.int .u64 (now:Int)] w [rdkF q,rbxF x.bx B z,rrF x] fun v Fs=> ∃z',z'.ts.map (·.1)=(openT ky gone B s now).2.2.L/\v= .tuple #[(openT ky gone B s now).1.v,.int .i64 (openT ky gone B s now).2.1]/\Fs=[rdkF q,rbxF x.bx (openT ky gone B s now).2.2 z',rrF x]:=by
 have g:=z_iE w (Un [rdkF q,rbxF x.bx B z,rrF x])
 refine z_cx (cx:=z_cS w (Un [rdkF q,rbxF x.bx B z,rrF x])) g z_lL [.c (.v (.pointer (some ⟨q.b,0,none⟩))),.c (.v (.string (mkS s))),.c (.v (.int .u64 (now:Int)))] [oddF 10] hm ?_
 refine z_ae g ?_
 refine z_ae g ?_
 refine z_aa [] (fun β w' hs=>z_uo w' s (by omega)) ?_
 unfold openT
 rintro v Fs (⟨b,m,A,c,M,dm,hsp,hbl,hm32,rfl,hc,hdm,rfl⟩ | ⟨e,hsp,he,rfl,rfl⟩)
 rotate_left
 ·rw [hsp]
  have he0: ¬e=0:=by omega
  refine z_ae g ?_
  refine BIf.not (BIf.dec (fun q=>absurd q he0) (fun _=>?_))
  exact fun β w' hs=>(hs.keepB (List.nil_sublist _)).fin [0,1,2] ⟨z,hts,rfl,rfl⟩ rfl rfl rfl ⟨rfl,rfl,rfl,trivial⟩
 rw [hsp]
 refine z_ae g ?_
 refine z_ae g ?_
 refine z_aa [] (fun β w' hs=>z_v7 w' A b c hc (by omega) (z_aj (hs.get 0 rfl))) ?_
 rintro v Fs ⟨⟨t,hrd,hok,rfl⟩ | ⟨hrd,rfl⟩,rfl⟩
 rotate_left
 ·simp only [hrd]
  refine z_ae g ?_
  exact fun β w' hs=>(hs.keepB (List.nil_sublist _)).fin [2,3,4] ⟨z,hts,rfl,rfl⟩ rfl rfl rfl ⟨rfl,rfl,rfl,trivial⟩
 simp only [hrd]
 have hb0:0<b.length:=by
  rw [<-(read_iff.1 hrd).2]
  exact z_sZ t
 have hlb:(labL++b).length<=1000000:=by rw [List.length_append];show 7+_<=_;omega
 refine z_ae g ?_
 refine z_ae g ?_
 refine z_af g z_jF (by kernel_rfl) [⟨1,z_ad,t.cells.map SL.v⟩,⟨0,z_ad,tk0.cells.map SL.v⟩] [rdkF q] (subPerm [2]) ?_
 refine ⟨ptrR q.rb,fun β w' hs=>z_ai (z_hx (hs.get 0 rfl)) (o:=0) rfl,?_⟩
 refine z_aa [] (fun β w' hs=>z_pH w' A b c hb0 (by omega) (z_aj (hs.get 0 rfl))) ?_
 rintro v Fs ⟨S,cs,rfl,hcs,rfl⟩
 refine ⟨subPerm [3],?_⟩
 have ver: ∀(o:Option (List UInt8)),ky (t.epoch:Int)=o-> ∀(β:Va) (w':World),Sat (z_cS w (Un [rdkF q,rbxF x.bx B z,rrF x])) β (0+1+1) [⟨0+1,z_ad,t.cells.map SL.v⟩,⟨0,z_ad,tk0.cells.map SL.v⟩] [browF z_ab S (labL++b) cs,browF z_ab A b c,browF z_ab M m dm,rdkF q,rbxF x.bx B z,rrF x,oddF 10] w'->Con Tryz.prog z_cI #[ptrR q.rb,.int .u64 (t.epoch:Int),.slice M m.length dm,.slice S (labL++b).length cs] w' [rbxF x.bx B z,rrF x] (rvrOut x B o m (labL++b)):=fun o ho β w' hs=>by
  have h2:=z_v3 w' x (t.epoch:Int) o B z M m dm S (labL++b) cs (ho▸hky _) hn hma hlb hts hi hBL (((hs.rowRd 2 rfl).rowRd 0 rfl).mem.take (js:=[4,5,2,0,6]) rfl)
  rw [<-hrb] at h2
  exact h2
 cases hk:ky (t.epoch:Int) with
 | none=>
  refine z_aa [4,5] (R:=rvrOut x B none m (labL++b)) (fun β w' hs=>ver none hk β w' hs) ?_
  rintro v Fs ⟨z2,rfl,hz2,rfl⟩
  refine ⟨subPerm [5],?_⟩
  exact fun β w' hs=>(hs.keepB (List.nil_sublist _)).fin [5,0,1] ⟨z2,hz2,rfl,rfl⟩ rfl rfl rfl ⟨rfl,rfl,rfl,trivial⟩
 | some k=>
 simp only
 refine z_aa [4,5] (R:=rvrOut x B (some k) m (labL++b)) (fun β w' hs=>ver (some k) hk β w' hs) ?_
 rintro v Fs ⟨z2,rfl,hz2,rfl⟩
 by_cases hq:(macB B k (labL++b)).1=m
 rotate_left
 ·rw [if_neg hq,if_neg hq]
  refine ⟨subPerm [5],?_⟩
  exact fun β w' hs=>(hs.keepB (List.nil_sublist _)).fin [5,0,1] ⟨z2,hz2,rfl,rfl⟩ rfl rfl rfl ⟨rfl,rfl,rfl,trivial⟩
 rw [if_pos hq,if_pos hq]
 refine ⟨subPerm [5],?_⟩
 refine z_ae g ?_
 refine BIf.dec (fun h1=>?_) (fun h1=>?_)
 ·have h10:(now:Int)<(t.fro:Int):=h1
  rw [if_pos (.inl (by omega))]
  exact fun β w' hs=>(hs.keepB (List.nil_sublist _)).fin [5,0,1] ⟨z2,hz2,rfl,rfl⟩ rfl rfl rfl ⟨rfl,rfl,rfl,trivial⟩
 have h10: ¬(now:Int)<(t.fro:Int):=h1
 refine BIf.dec (fun h2=>?_) (fun h2=>?_)
 ·have h20:(now:Int)>=(t.til:Int):=h2
  rw [if_pos (.inr (by omega))]
  exact fun β w' hs=>(hs.keepB (List.nil_sublist _)).fin [5,0,1] ⟨z2,hz2,rfl,rfl⟩ rfl rfl rfl ⟨rfl,rfl,rfl,trivial⟩
 have h20: ¬(now:Int)>=(t.til:Int):=h2
 rw [if_neg (by omega),hgo]
 refine z_ae g ?_
 refine z_aa [5] (fun β w' hs=>z_ru w' q t.serial hL (hs.mem.take (js:=[5]) rfl)) ?_
 rintro v Fs ⟨⟨X,k0,Y,hqL,hks,hX,rfl⟩ | ⟨hno,rfl⟩,rfl⟩
 rotate_left
 ·rw [decide_eq_false (rv_no hno),if_neg (by decide)]
  refine z_aQ g ?_
  exact fun β w' hs=>(hs.keepB (List.nil_sublist _)).fin [0,1,2] ⟨z2,hz2,rfl,rfl⟩ rfl rfl rfl ⟨rfl,rfl,rfl,trivial⟩
 have hXl:X.length<q.L.length:=by rw [hqL,List.length_append,List.length_cons];omega
 have hkx:q.L[X.length]?=some k0:=by rw [hqL,List.getElem?_append_right (Nat.le_refl _),Nat.sub_self];rfl
 obtain ⟨ad,hA,_⟩:=(z_k7 (hm.fact (rdkF q) List.mem_cons_self)).2 (by omega)
 have hgk:decide (t.serial∈rvS q.L)=k0.rv:=by
  have h:=rv_at (X:=X) (Y:=Y) (k:=k0) (by rw [<-hqL];exact hri)
  rw [<-hqL,hks] at h
  cases hrv:k0.rv with
  | true=>exact decide_eq_true (h.2 hrv)
  | false=>exact decide_eq_false (fun q=>by rw [h.1 q] at hrv;cases hrv)
 rw [hgk]
 refine ⟨.slice q.A q.L.length q.c,fun β w' hs=>z_ai (z_hx (hs.get 0 rfl)) (o:=3) rfl,?_⟩
 refine ⟨ad,X.length,hA,rfl,hXl,?_⟩
 refine ⟨.bool k0.rv,fun β w' hs=>kn_at (by have h:=z_k7 (hs.get 0 rfl);rw [hA] at h;exact h) hkx 2 _ rfl,?_⟩
 cases hrv:k0.rv with
 | true=>
  rw [if_pos rfl]
  exact fun β w' hs=>(hs.keepB (List.nil_sublist _)).fin [0,1,2] ⟨z2,hz2,rfl,rfl⟩ rfl rfl rfl ⟨rfl,rfl,rfl,trivial⟩
 | false=>
  rw [if_neg (by decide)]
  refine z_aQ g ?_
  exact fun β w' hs=>(hs.keepB (List.nil_sublist _)).fin [0,1,2] ⟨z2,hz2,rfl,rfl⟩ rfl rfl rfl ⟨rfl,rfl,rfl,trivial⟩
theorem z_oH (w:World) (n:Nat):Pu Tryz.prog z_fN #[.int .u64 (n:Int)] w (.int .u64 ((min n 1099511627776:Nat):Int)):=by
 have g:=z_i4 w (Un [])
 refine z_ac (cx:=z_fj w (Un [])) g z_lM rfl rfl (β:=Va.z) [.c (.v (.int .u64 (n:Int)))] 0 [] [] rfl rfl (Sat.start rfl) ?_
 refine BIf.dec (fun h=>?_) (fun h=>?_)
 ·have h0:(n:Int)>1099511627776:=h
  rw [show min n 1099511627776=1099511627776 by omega]
  intro β w' hs
  exact hs.fin [] ⟨rfl,rfl⟩
 ·have h0: ¬(n:Int)>1099511627776:=h
  rw [show min n 1099511627776=n by omega]
  intro β w' hs
  exact hs.fin [] ⟨rfl,rfl⟩
theorem z_tl (w:World) (a b:Nat):Pu Tryz.prog z_gF #[.int .u64 (a:Int),.int .u64 (b:Int)] w (.int .u64 ((addTk a b:Nat):Int)):=by
 have g:=z_ki w (Un [])
 refine z_ac (cx:=z_gr w (Un [])) g z_mP rfl rfl (β:=Va.z) [.c (.v (.int .u64 (a:Int))),.c (.v (.int .u64 (b:Int)))] 0 [] [] rfl rfl (Sat.start rfl) ?_
 refine z_ah (fun β w' hs=>z_oH w' a) ?_
 refine z_ah (fun β w' hs=>z_oH w' b) ?_
 refine ⟨((min a 1099511627776+min b 1099511627776:Nat):Int),by rw [z_c7];omega,?_⟩
 refine z_ah (fun β w' hs=>z_oH w' (min a 1099511627776+min b 1099511627776)) ?_
 intro β w' hs
 exact hs.fin [] ⟨rfl,rfl⟩
end Go.Proofs.YtfomhhkoamapmaaGreatDoor.Sx
namespace Go.Proofs.YtfomhhkoamapmaaGreatDoor.Sx
open Go
attribute [local irreducible] Calls
open Classical in
def rmntOut (q:RD) (x:RR) (B:Bx.Box) (ky:Option (List UInt8)) (t:Tk) (v:Value) (Fs:List Fact):Prop:=
 (∃k z' A c,t.Right/\ky=some k/\v= .tuple #[.string (mkS (tkTxt t (macB B k (labL++bodyL t)).1)),t.v,.int .i64 0]/\z'.ts.map (·.1)=(macB B k (labL++bodyL t)).2.L/\Fs=[rdkF {q with serial:=q.serial+1,A:=A,c:=c,L:=q.L++[⟨q.serial+1,t.til,false⟩]},rbxF x.bx (macB B k (labL++bodyL t)).2 z',rrF x])\/
 (∃e z',((¬t.Right/\e=4)\/(t.Right/\ky=none/\e=15))/\v= .tuple #[.string (mkS []),tk0.v,.int .i64 e]/\z'.ts.map (·.1)=B.L/\Fs=[rdkF q,rbxF x.bx B z',rrF x])
open Classical in
theorem z_qZ (w:World) (q:RD) (x:RR) (B:Bx.Box) (z:Lay) (ten usr rol:List UInt8) (gen now:Nat) (ky:Option (List UInt8)) (hky:RKy x B (x.epoch:Int) ky) (hrb:q.rb=x.b) (ht:ten.length<=100000) (hu:usr.length<=100000) (hr:rol.length<=100000) (hg:gen<18446744073709551616) (hnw:now<18446744073709551616) (hds:q.serial<=1000000) (hep:x.epoch<18446744073709551616) (hL:q.L.length<=1000) (hn:x.es.length<=1000) (hma:x.master.length<=64) (hts:z.ts.map (·.1)=B.L) (hi:BInv B) (hBL:B.L.length<4096)
  (hm:Mem w [rdkF q,rbxF x.bx B z,rrF x,oddF 10]):
  Con Tryz.prog z_fO #[.pointer (some ⟨q.b,0,none⟩),.agg #[.string (mkS ten),.string (mkS usr),.string (mkS rol)],.int .u64 (gen:Int),.int .u64 (now:Int)] w [rdkF q,rbxF x.bx B z,rrF x] (rmntOut q x B ky ⟨x.epoch,q.serial+1,now,addTk now q.life,gen,ten,usr,rol⟩):=by
 have hml:=maxLen_eq
 have g:=z_iR w (Un [rdkF q,rbxF x.bx B z,rrF x])
 refine z_cx (cx:=z_e8 w (Un [rdkF q,rbxF x.bx B z,rrF x])) g z_lv [.c (.v (.pointer (some ⟨q.b,0,none⟩))),.agg [.v (.string (mkS ten)),.v (.string (mkS usr)),.v (.string (mkS rol))],.c (.v (.int .u64 (gen:Int))),.c (.v (.int .u64 (now:Int)))] [oddF 10] hm ?_
 refine z_ae g ?_
 refine z_aM (ι:=Unit) g (fun _=>True) 3 (fun _=>[(0,.c (.v (.pointer (some ⟨q.b,0,none⟩)))),(9,.c (.p 1 0)),(11,.c (.p 2 0))])
  (fun _=>[⟨2,z_ad,(Tk.cells ⟨x.epoch,q.serial+1,now,addTk now q.life,gen,ten,usr,rol⟩).map SL.v⟩,⟨1,z_ad,tk0.cells.map SL.v⟩]) (fun _=>[rdkF q,rbxF x.bx B z,rrF x,oddF 10]) ?_ ?_
 rotate_left
 ·refine z_af g z_jW (by kernel_rfl) [⟨1,z_ad,tk0.cells.map SL.v⟩,⟨0,z_aF,[.v (.string (mkS ten)),.v (.string (mkS usr)),.v (.string (mkS rol))]⟩] [rdkF q,rrF x] (subPerm [0,2]) ?_
  have hs1:IntKind.u64.wrap ((q.serial:Int)+1)=((q.serial+1:Nat):Int):=by rw [z_c7];omega
  refine ⟨ptrR q.rb,fun β w' hs=>z_ai (z_hx (hs.get 0 rfl)) (o:=0) rfl,?_⟩
  refine ⟨.int .u64 (x.epoch:Int),fun β w' hs=>by rw [hrb];exact z_ai (rr_bk (hs.get 1 rfl)) (o:=4) rfl,?_⟩
  refine ⟨.int .u64 (q.serial:Int),fun β w' hs=>z_ai (z_hx (hs.get 0 rfl)) (o:=2) rfl,?_⟩
  refine ⟨_,hs1,?_⟩
  refine ⟨.int .u64 (q.life:Int),fun β w' hs=>z_ai (z_hx (hs.get 0 rfl)) (o:=1) rfl,?_⟩
  refine ⟨?_,?_⟩
  ·refine z_ah (fun β w' hs=>z_tl w' now q.life) ?_
   refine ⟨subPerm [0,2],?_⟩
   refine ⟨Sub.of (List.sublist_cons_self _ _) (List.Sublist.cons_cons _ (List.Sublist.cons _ (List.Sublist.cons_cons _ (List.nil_sublist _)))),?_⟩
   refine ⟨Sub.of (List.sublist_cons_self _ _) (List.Sublist.cons_cons _ (List.Sublist.cons _ (List.Sublist.cons_cons _ (List.nil_sublist _)))),?_⟩
   exact EntX.of () trivial (Ent.mk' ⟨rfl,rfl,rfl,trivial⟩ rfl (fun β w' hs=>hs.keepB (List.Sublist.cons_cons _ (List.Sublist.cons_cons _ (List.nil_sublist _)))))
  ·refine ⟨Sub.of (List.sublist_cons_self _ _) (List.Sublist.cons_cons _ (List.Sublist.cons _ (List.Sublist.cons_cons _ (List.nil_sublist _)))),?_⟩
   refine z_ah (fun β w' hs=>z_tl w' now q.life) ?_
   refine ⟨Sub.of (List.sublist_cons_self _ _) (List.Sublist.cons_cons _ (List.Sublist.cons _ (List.Sublist.cons_cons _ (List.nil_sublist _)))),?_⟩
   refine ⟨Sub.of (List.sublist_cons_self _ _) (List.Sublist.cons_cons _ (List.Sublist.cons _ (List.Sublist.cons_cons _ (List.nil_sublist _)))),?_⟩
   exact EntX.of () trivial (Ent.mk' ⟨rfl,rfl,rfl,trivial⟩ rfl (fun β w' hs=>hs.keepB (List.Sublist.cons_cons _ (List.Sublist.cons_cons _ (List.nil_sublist _)))))
 rintro ⟨⟩ -
 have hok:(⟨x.epoch,q.serial+1,now,addTk now q.life,gen,ten,usr,rol⟩:Tk).Ok:=by
  have h2:addTk now q.life<18446744073709551616:=by unfold addTk;omega
  exact ⟨hep,by show q.serial+1<_;omega,hnw,h2,hg,ht,hu,hr⟩
 have hse:(⟨x.epoch,q.serial+1,now,addTk now q.life,gen,ten,usr,rol⟩:Tk).serial=q.serial+1:=rfl
 generalize (⟨x.epoch,q.serial+1,now,addTk now q.life,gen,ten,usr,rol⟩:Tk)=t at *
 refine z_ae g ?_
 refine z_aa [] (fun β w' hs=>z_oR w' t hok) ?_
 rintro v Fs (⟨hR,A,c,rfl,hc,rfl⟩ | ⟨hR,rfl,rfl⟩)
 rotate_left
 ·intro β w' hs
  exact (hs.keepB (List.nil_sublist _)).fin [0,1,2] (.inr ⟨4,z,.inl ⟨hR,rfl⟩,rfl,hts,rfl⟩) rfl rfl rfl ⟨rfl,rfl,rfl,trivial⟩
 have l1:=z_bg hR.ten
 have l2:=z_eg hR.usr
 have l3:=z_bg hR.rol
 have hbl:(bodyL t).length<=1000:=by
  unfold bodyL txtL
  simp only [List.length_cons,List.length_append,z_ay]
  omega
 have hlb:(labL++bodyL t).length<=1000000:=by rw [List.length_append];show 7+_<=_;omega
 refine z_ae g ?_
 refine z_aa [] (fun β w' hs=>z_oR w' t hok) ?_
 rintro v Fs (⟨_,A2,c2,rfl,hc2,rfl⟩ | ⟨h,_⟩)
 rotate_left
 ·exact absurd hR h
 refine z_ae g ?_
 refine z_af g z_j9 (by kernel_rfl) [⟨2,z_ad,t.cells.map SL.v⟩,⟨1,z_ad,tk0.cells.map SL.v⟩] [rdkF q] (subPerm [2]) ?_
 refine ⟨ptrR q.rb,fun β w' hs=>z_ai (z_hx (hs.get 0 rfl)) (o:=0) rfl,?_⟩
 refine z_aa [] (fun β w' hs=>z_pH w' A2 (bodyL t) c2 (z_sZ t) (by omega) (z_aj (hs.get 0 rfl))) ?_
 rintro v Fs ⟨S,cs,rfl,hcs,rfl⟩
 refine ⟨subPerm [3],?_⟩
 refine z_aa [4,5] (R:=rsgOut x B ky (labL++bodyL t)) (fun β w' hs=>by
  have h2:=z_yr w' x ky B z S (labL++bodyL t) cs hky hn hma hlb hts hi hBL ((hs.rowRd 0 rfl).mem.take (js:=[4,5,0,6]) rfl)
  rw [<-hrb] at h2
  exact h2) ?_
 unfold rmntOut
 cases ky with
 | none=>
  rintro v Fs ⟨z2,rfl,hz2,rfl⟩
  refine ⟨subPerm [6],?_⟩
  refine z_ae g ?_
  intro β w' hs
  exact (hs.keepB (List.nil_sublist _)).fin [6,1,2] (.inr ⟨15,z2,.inr ⟨hR,rfl,rfl⟩,rfl,hz2,rfl⟩) rfl rfl rfl ⟨rfl,rfl,rfl,trivial⟩
 | some k=>
 rintro v Fs ⟨M,dm,z2,rfl,hdm,hz2,rfl⟩
 refine ⟨subPerm [6],?_⟩
 have hk32:(macB B k (labL++bodyL t)).1.length=32:=(z_ev hi (by omega) (k:=k) (t:=labL++bodyL t) (by have:=hky.2.1;omega) hlb).2.1
 obtain ⟨o,ho⟩: ∃o,macB B k (labL++bodyL t)=o:=⟨_,rfl⟩
 obtain ⟨m,B2⟩:=o
 rw [ho] at hk32 hdm hz2 ⊢
 simp only at hk32 hdm hz2 ⊢
 refine z_ae g ?_
 refine z_ha (fun β w' hs=>hs.unsep 6 rfl) ?_
 refine z_ae g ?_
 refine ⟨_,fun β w' hs=>z_ai (hs.get 0 rfl) (o:=2) rfl,?_⟩
 refine ⟨((q.serial+1:Nat):Int),by rw [z_aD];omega,?_⟩
 refine ⟨[bkF q.b z_aK ({q with serial:=q.serial+1}:RD).vs,kF q.A q.L q.c,browF z_ab M m dm,rbxF x.bx B2 z2,rrF x,browF z_ab A2 (bodyL t) c2,oddF 10],fun β w' hs=>by
  obtain ⟨w2,f1,f2⟩:=hs.bkSet 0 (o:=2) (us:=[.int .u64 ((q.serial+1:Nat):Int)]) rfl (by show 3<=4;decide) (z_a9 rfl)
  exact ⟨w2,f1,f2.perm [0,1,2,3,4,6,8]⟩,?_⟩
 have hkl:(q.L++[(⟨t.serial,t.til,false⟩:Kn)]).length=q.L.length+1:=by rw [List.length_append];rfl
 have hkc:q.L.flatMap Kn.cells++[.int .u64 (t.serial:Int),.int .u64 (t.til:Int),.bool false]=(q.L++[(⟨t.serial,t.til,false⟩:Kn)]).flatMap Kn.cells:=by rw [List.flatMap_append];rfl
 have hrd: ∀A c,rdkF {q with serial:=q.serial+1,A:=A,c:=c,L:=q.L++[⟨t.serial,t.til,false⟩]}=sepF [bkF q.b z_aK [ptrR q.rb,.int .u64 (q.life:Int),.int .u64 ((q.serial+1:Nat):Int),.slice A (q.L.length+1) c],rowF z_aN 3 (.slice A (q.L.length+1) c) (q.L.length+1) ((q.L++[(⟨t.serial,t.til,false⟩:Kn)]).flatMap Kn.cells)]:=fun A c=>by
  unfold rdkF RD.vs
  simp only [kF,hkl]
 refine z_aM (ι:=Option Addr×Nat) g (fun i=>q.L.length+1<=i.2) 3 (fun _=>[(0,.c (.v (.pointer (some ⟨q.b,0,none⟩)))),(9,.c (.p 1 0)),(11,.c (.p 2 0)),(14,.c (.v (.slice A2 (bodyL t).length c2))),(17,.c (.v (.slice M m.length dm)))])
  (fun _=>[⟨2,z_ad,t.cells.map SL.v⟩,⟨1,z_ad,tk0.cells.map SL.v⟩]) (fun i=>[rdkF {q with serial:=q.serial+1,A:=i.1,c:=i.2,L:=q.L++[⟨t.serial,t.til,false⟩]},browF z_ab M m dm,rbxF x.bx B2 z2,rrF x,browF z_ab A2 (bodyL t) c2,oddF 10]) ?_ ?_
 rotate_left
 ·refine z_af g z_ja (by kernel_rfl) [⟨2,z_ad,t.cells.map SL.v⟩,⟨1,z_ad,tk0.cells.map SL.v⟩] [bkF q.b z_aK ({q with serial:=q.serial+1}:RD).vs,kF q.A q.L q.c] (subPerm [0,1]) ?_
  refine ⟨_,fun β w' hs=>z_ai (hs.get 0 rfl) (o:=3) rfl,?_⟩
  refine ⟨?_,?_⟩
  ·intro b1
   refine ⟨subPerm [1,2],?_⟩
   refine ⟨?_,?_⟩
   ·refine ⟨0,0,q.L.length,[],q.L.flatMap Kn.cells,q.L.flatMap Kn.cells,rfl,fun β w' hs=>z_aj (hs.get 2 rfl),z_nB q.L,Nat.zero_add _,rfl,by omega,by show q.L.length*24<=_;omega,?_⟩
    intro A1 c1 p1 p2 p3
    refine ⟨subPerm [1,2],?_⟩
    intro b2
    refine ⟨subPerm [2,3],?_⟩
    refine ⟨1,q.L.length,q.L.length+1,q.L.flatMap Kn.cells,[.int .u64 (t.serial:Int),.int .u64 (t.til:Int),.bool false],(q.L++[(⟨t.serial,t.til,false⟩:Kn)]).flatMap Kn.cells,rfl,fun β w' hs=>z_aj (hs.get 0 rfl),(fun u hu=>z_nB [(⟨t.serial,t.til,false⟩:Kn)] u hu),rfl,hkc,by omega,by show (q.L.length+1)*24<=_;omega,?_⟩
    intro A4 c4 p4 p5 p6
    refine ⟨subPerm [2,3],?_⟩
    refine ⟨subPerm [2,3],?_⟩
    refine ⟨_,fun β w' hs=>hs.bkSet 2 (o:=3) (us:=[.slice A4 (q.L.length+1) c4]) rfl (by show 4<=4;decide) (z_a9 rfl),?_⟩
    exact EntX.of (A4,c4) p4 (Ent.mk' ⟨rfl,rfl,rfl,rfl,rfl,trivial⟩ rfl (fun β w' hs=>by
     have h:=(hs.sep [2,1] rfl ⟨rfl,rfl,trivial⟩).perm [0,3,4,5,6,7]
     rw [hrd A4 c4]
     exact h))
   ·intro b2
    refine ⟨subPerm [2,3],?_⟩
    refine ⟨1,0,q.L.length,[],q.L.flatMap Kn.cells,q.L.flatMap Kn.cells,rfl,fun β w' hs=>z_aj (hs.get 3 rfl),z_nB q.L,Nat.zero_add _,rfl,by omega,by show q.L.length*24<=_;omega,?_⟩
    intro A1 c1 p1 p2 p3
    refine ⟨subPerm [2,3],?_⟩
    refine ⟨1,q.L.length,q.L.length+1,q.L.flatMap Kn.cells,[.int .u64 (t.serial:Int),.int .u64 (t.til:Int),.bool false],(q.L++[(⟨t.serial,t.til,false⟩:Kn)]).flatMap Kn.cells,rfl,fun β w' hs=>z_aj (hs.get 0 rfl),(fun u hu=>z_nB [(⟨t.serial,t.til,false⟩:Kn)] u hu),rfl,hkc,by omega,by show (q.L.length+1)*24<=_;omega,?_⟩
    intro A4 c4 p4 p5 p6
    refine ⟨subPerm [2,3],?_⟩
    refine ⟨subPerm [2,3],?_⟩
    refine ⟨_,fun β w' hs=>hs.bkSet 2 (o:=3) (us:=[.slice A4 (q.L.length+1) c4]) rfl (by show 4<=4;decide) (z_a9 rfl),?_⟩
    exact EntX.of (A4,c4) p4 (Ent.mk' ⟨rfl,rfl,rfl,rfl,rfl,trivial⟩ rfl (fun β w' hs=>by
     have h:=(hs.sep [2,1] rfl ⟨rfl,rfl,trivial⟩).perm [0,3,4,5,6,7]
     rw [hrd A4 c4]
     exact h))
  ·intro b2
   refine ⟨subPerm [1,2],?_⟩
   intro b1
   refine ⟨subPerm [2,3],?_⟩
   refine ⟨0,0,q.L.length,[],q.L.flatMap Kn.cells,q.L.flatMap Kn.cells,rfl,fun β w' hs=>z_aj (hs.get 3 rfl),z_nB q.L,Nat.zero_add _,rfl,by omega,by show q.L.length*24<=_;omega,?_⟩
   intro A1 c1 p1 p2 p3
   refine ⟨subPerm [2,3],?_⟩
   refine ⟨0,q.L.length,q.L.length+1,q.L.flatMap Kn.cells,[.int .u64 (t.serial:Int),.int .u64 (t.til:Int),.bool false],(q.L++[(⟨t.serial,t.til,false⟩:Kn)]).flatMap Kn.cells,rfl,fun β w' hs=>z_aj (hs.get 1 rfl),(fun u hu=>z_nB [(⟨t.serial,t.til,false⟩:Kn)] u hu),rfl,hkc,by omega,by show (q.L.length+1)*24<=_;omega,?_⟩
   intro A4 c4 p4 p5 p6
   refine ⟨subPerm [2,3],?_⟩
   refine ⟨subPerm [2,3],?_⟩
   refine ⟨_,fun β w' hs=>hs.bkSet 2 (o:=3) (us:=[.slice A4 (q.L.length+1) c4]) rfl (by show 4<=4;decide) (z_a9 rfl),?_⟩
   exact EntX.of (A4,c4) p4 (Ent.mk' ⟨rfl,rfl,rfl,rfl,rfl,trivial⟩ rfl (fun β w' hs=>by
    have h:=(hs.sep [2,0] rfl ⟨rfl,rfl,trivial⟩).perm [0,3,4,5,6,7]
    rw [hrd A4 c4]
    exact h))
 rintro ⟨A4,c4⟩ hc4
 simp only at hc4
 refine z_aQ g ?_
 refine z_af g z_i7 (by kernel_rfl) [⟨2,z_ad,t.cells.map SL.v⟩] [] (Sub.of (List.Sublist.cons_cons _ (List.nil_sublist _)) (List.nil_sublist _)) ?_
 refine z_aa [] (fun β w' hs=>z_rF w' A2 (bodyL t) c2 true (by omega) ((hs.rowRd 4 rfl).mem.take (js:=[4]) rfl)) ?_
 rintro v Fs ⟨rfl,rfl⟩
 refine ⟨(Sub.of (List.Sublist.cons_cons _ (List.nil_sublist _)) (List.nil_sublist _)),?_⟩
 have e1:(encS true (bodyL t)).length=(8*(bodyL t).length+5)/6:=z_fE true (bodyL t)
 have e2:(encS true m).length=(8*m.length+5)/6:=z_fE true m
 refine ⟨by rw [z_gN];show _+1<=maxLen;omega,?_⟩
 refine z_aa [] (fun β w' hs=>z_rF w' M m dm true (by omega) ((hs.rowRd 1 rfl).mem.take (js:=[1]) rfl)) ?_
 rintro v Fs ⟨rfl,rfl⟩
 refine ⟨(Sub.of (List.Sublist.cons_cons _ (List.nil_sublist _)) (List.nil_sublist _)),?_⟩
 have htx:(mkS (encS true (bodyL t))++⟨#[46]⟩:ByteArray)++mkS (encS true m)=mkS (tkTxt t m):=by
  unfold tkTxt
  apply ByteArray.ext
  simp [mkS]
 have hsz:((mkS (encS true (bodyL t))++⟨#[46]⟩:ByteArray)).size+(mkS (encS true m)).size<=maxLen:=by
  rw [ByteArray.size_append,z_gN,z_gN]
  show _+1+_<=maxLen
  omega
 refine ⟨hsz,?_⟩
 refine ⟨(Sub.of (List.Sublist.cons_cons _ (List.nil_sublist _)) (List.nil_sublist _)),?_⟩
 intro β w' hs
 refine (hs.keepB (List.nil_sublist _)).fin [0,2,3] (.inl ⟨k,z2,A4,c4,hR,rfl,?_,by rw [ho];exact hz2,by rw [ho,hse];rfl⟩) rfl rfl rfl ⟨rfl,rfl,rfl,trivial⟩
 rw [ho]
 show Value.tuple #[.string ((mkS (encS true (bodyL t))++⟨#[46]⟩:ByteArray)++mkS (encS true m)),t.v,.int .i64 0]=_
 rw [htx]
end Go.Proofs.YtfomhhkoamapmaaGreatDoor.Sx
namespace Go.Proofs.YtfomhhkoamapmaaGreatDoor.Sx
open Go
attribute [local irreducible] Calls
theorem z_pG: ∀(R:List Nat) (k:Int) (v:Value),ilook (rvL R) k=some v->v= .bool true
 | [],_,_,h=>by cases h
 | s::R,k,v,h=>by
  change (if ((s:Int),Value.bool true).1=k then some (Value.bool true) else ilook (rvL R) k)=some v at h
  split at h
  ·exact (Option.some.inj h).symm
  ·exact z_pG R k v h
theorem KnI.goneI {to_ rv:MLI} {L:List Kn} {n:Nat} (h:KnI to_ rv L n) (k:Int) (v:Value) (hv:ilook rv k=some v):v= .bool true:=by
 obtain ⟨R,hR,_⟩:=h.rr
 rw [hR] at hv
 exact z_pG R k v hv
theorem KnI.absent {to_ rv:MLI} {L:List Kn} {n:Nat} (h:KnI to_ rv L n) {s:Nat} (hno: ∀x∈L,x.s≠s):ilook to_ (s:Int)=none:=by
 rw [h.tt,z_l8,List.find?_eq_none.2 (fun x hx=>by simpa using hno x hx)]
 rfl
theorem z_zG {d:Dk} {L:List Kn} (h:KnI d.to d.rv L d.serial) {s:Nat} (hno: ∀x∈L,x.s≠s):revD d (s:Int)=(6,d):=by
 unfold revD
 rw [if_pos (h.absent hno)]
theorem z_wv {d:Dk} {X Y:List Kn} {k:Kn} (h:KnI d.to d.rv (X++k::Y) d.serial) (hk:k.rv=true):revD d (k.s:Int)=(10,d):=by
 unfold revD
 rw [h.look,h.goneAt,hk]
 rfl
theorem z_ym {d:Dk} {X Y:List Kn} {k:Kn} (h:KnI d.to d.rv (X++k::Y) d.serial) (hk:k.rv=false):revD d (k.s:Int)=(0,{d with rv:=iput d.rv (k.s:Int) (.bool true)}):=by
 unfold revD
 rw [h.look,h.goneAt,hk]
 rfl
theorem z_n8 {B:Bx.Box} (hi:BInv B) (hL:B.L.length<4000) {k b:List UInt8} (hk:k.length<=1000) (hb:b.length<=1000):
  Pre B (macB B k (labL++b)).2/\BInv (macB B k (labL++b)).2/\(macB B k (labL++b)).2.L.length<=B.L.length+1/\(macB B k (labL++b)).1.length=32:=by
 have hlb:(labL++b).length<=1000000:=by rw [List.length_append];show 7+_<=_;omega
 have hg:=z_ev hi (by omega) (k:=k) (t:=labL++b) (by omega) hlb
 exact ⟨z_vL (B:=B) (by omega) k (labL++b),hg.1.inv,hg.1.len,hg.2.1⟩
theorem z_vG {ky:Int->Option (List UInt8)} {gone:Int->Bool} {B:Bx.Box} {s:List UInt8} {now:Nat} (hi:BInv B) (hL:B.L.length<4000) (hk: ∀e k,ky e=some k->k.length<=1000):
  Pre B (openT ky gone B s now).2.2/\BInv (openT ky gone B s now).2.2/\(openT ky gone B s now).2.2.L.length<=B.L.length+1:=by
 have key: ∀(k b:List UInt8),k.length<=1000->b.length<=1000->Pre B (macB B k (labL++b)).2/\BInv (macB B k (labL++b)).2/\(macB B k (labL++b)).2.L.length<=B.L.length+1:=fun k b h1 h2=>⟨(z_n8 hi hL h1 h2).1,(z_n8 hi hL h1 h2).2.1,(z_n8 hi hL h1 h2).2.2.1⟩
 have triv:Pre B B/\BInv B/\B.L.length<=B.L.length+1:=⟨Pre.refl _,hi,Nat.le_succ _⟩
 unfold openT
 split
 ·exact triv
 ·split
  ·exact triv
  ·rename_i hrd
   have hb:=z_n9 (read_iff.1 hrd).1
   rw [(read_iff.1 hrd).2] at hb
   split
   ·exact triv
   ·rename_i hk0
    have h:=key _ _ (hk _ _ hk0) (Nat.le_trans hb.1 (by decide))
    split
    ·split
     ·exact h
     ·split<;>exact h
    ·exact h
structure PR where
 pb:Nat
 db:Nat
 rp:Nat
 qb:Nat
 A:Option Addr
 c:Nat
 l:List (List UInt8)
 now:Nat
def strV (s:List UInt8):Value:= .string (mkS s)
def PR.vs (p:PR):List Value:=[ptrD p.db,ptrR p.rp,.pointer (some ⟨p.qb,0,none⟩),.slice p.A p.l.length p.c,.int .u64 (p.now:Int)]
abbrev sRow (A:Option Addr) (l:List (List UInt8)) (c:Nat):Fact:=rowF z_ak 1 (.slice A l.length c) l.length (l.map strV)
def prF (p:PR):Fact:=sepF [bkF p.pb z_am p.vs,sRow p.A p.l p.c]
structure DoI (r:Rg) (x:RR) (B:Bx.Box) (d:Dk) (q:RD) (p:PR) (n:Nat):Prop where
 ri:RI r x B (n+1)
 ep1:1<=r.epoch
 drb:d.rb=r.b
 qrb:q.rb=x.b
 ser:d.serial=q.serial
 sn:q.serial<=n
 life:d.life=q.life
 kn:KnI d.to d.rv q.L d.serial
 now:p.now<=n*200
 ll:p.l.length<=n
 txt: ∀s∈p.l,0<s.length/\s.length<=300
 pd:p.db=d.b
 pr:p.rp=r.b
 pq:p.qb=q.b
theorem DoI.next {r:Rg} {x:RR} {B B':Bx.Box} {d:Dk} {q:RD} {p:PR} {n now2:Nat} (h:DoI r x B d q p n) (hn:n<=40) (hp:Pre B B') (hi:BInv B') (hl:B'.L.length<=B.L.length+1) (hw:now2<=p.now+199):DoI r x B' d q {p with now:=now2} (n+1):=by
 have h1:=h.ri.len
 have h2:=h.sn
 have h3:=h.now
 have h4:=h.ll
 exact ⟨h.ri.grow (by omega) hp hi (by omega) (Nat.le_succ _),h.ep1,h.drb,h.qrb,h.ser,by omega,h.life,h.kn,by show now2<=_;omega,by show p.l.length<=_;omega,h.txt,h.pd,h.pr,h.pq⟩
theorem DoI.setK {r:Rg} {x:RR} {B:Bx.Box} {d:Dk} {q:RD} {p:PR} {n:Nat} (h:DoI r x B d q p n) {t rv:MLI} {A:Option Addr} {c:Nat} {L:List Kn} (hk:KnI t rv L d.serial):DoI r x B {d with «to» :=t,rv:=rv} {q with A:=A,c:=c,L:=L} p n:=
 ⟨h.ri,h.ep1,h.drb,h.qrb,h.ser,h.sn,h.life,hk,h.now,h.ll,h.txt,h.pd,h.pr,h.pq⟩
theorem DoI.ring {r r':Rg} {x x':RR} {B B':Bx.Box} {d:Dk} {q:RD} {p:PR} {n:Nat} (h:DoI r x B d q p n) (hr:RI r' x' B' (n+1)) (he:1<=r'.epoch) (hb:r'.b=r.b) (hx:x'.b=x.b):DoI r' x' B' d q p n:=
 ⟨hr,he,h.drb.trans hb.symm,h.qrb.trans hx.symm,h.ser,h.sn,h.life,h.kn,h.now,h.ll,h.txt,h.pd,h.pr.trans hb.symm,h.pq⟩
structure OpD where
 d:UInt8
 ten:List UInt8
 usr:List UInt8
 rol:List UInt8
 gen:Nat
 which:UInt8
 own:Bool
 spoil:Bool
 text:List UInt8
 ticks:Nat
def OpD.cells (o:OpD):List Value:=[.int .u8 (o.d.toNat:Int),.string (mkS o.ten),.string (mkS o.usr),.string (mkS o.rol),.int .u64 (o.gen:Int),.int .u8 (o.which.toNat:Int),.bool o.own,.bool o.spoil,.string (mkS o.text),.int .u16 (o.ticks:Int)]
abbrev tab5F:List Fact:=[oddF 3,firstF 1,oddF 10,mlF,namF]
abbrev tdoF (r:Rg) (x:RR) (B:Bx.Box) (d:Dk) (q:RD) (p:PR) (y z:Lay):List Fact:=[prF p,dkF d,rgF r,bxF r.bx B y,rdkF q,rrF x,rbxF x.bx B z]
def tdoOut (r:Rg) (x:RR) (d:Dk) (q:RD) (p:PR) (n:Nat) (v:Value) (Fs:List Fact):Prop:=
 ∃r' x' B' d' q' p' y' z',v= .bool true/\r'.b=r.b/\r'.bx=r.bx/\x'.b=x.b/\x'.bx=x.bx/\d'.b=d.b/\q'.b=q.b/\p'.pb=p.pb/\y'.ts.map (·.1)=B'.L/\z'.ts.map (·.1)=B'.L/\DoI r' x' B' d' q' p' (n+1)/\Fs=tdoF r' x' B' d' q' p' y' z'
end Go.Proofs.YtfomhhkoamapmaaGreatDoor.Sx
