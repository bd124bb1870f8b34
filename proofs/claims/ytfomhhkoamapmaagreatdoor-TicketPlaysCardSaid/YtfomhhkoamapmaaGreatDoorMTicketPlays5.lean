/- Texts joined: KyI, ColI, SrU, SrU2, FmU, RgL, Tka, Tk6, Tk2, Tk8, Tk9, Tkd, RgK, MpI, BxL, RgR, RgN, RgW, RgS, RgV, RgD, Rg0, Rg1, Kn1, RgP, RgS2, DkN, Tke, Tkf, Tkc, Tkg, Dec, RgA, RfR, RfR2, RfR3, RpL, EqT, Tkj, Tpa, Tpb, Pq1, Pq2, Pq3. -/
import Derived.Test.YtfomhhkoamapmaaGreatDoorMTicketPlays4
import Derived.Test.YtfomhhkoamapmaaGreatDoorMTicketPlays2
import Derived.Test.YtfomhhkoamapmaaGreatDoorMTicketPlays3
set_option linter.unusedVariables false
set_option linter.unusedSimpArgs false
namespace Go.Proofs.YtfomhhkoamapmaaGreatDoor.Sx
open Go
attribute [local irreducible] Calls
theorem Sat.endI {cx:Cx} {β:Va} {n:Nat} {H:List Bk} {F:List Fact} {w:World} {kk:IntKind} (h:Sat cx β n H F w) (j:Nat) {b r:Nat} {l ss:MLI} {cur:Option (Int×Value)} (hj:nth F j=some (itIF kk b r l ss cur)):Sat cx β n H (putAt F j (mapIF kk b l)) w:=by
 obtain ⟨es,ds,k,since,c0,seen,hb,hm,_⟩:=h.get j hj
 exact h.upd hj rfl (Chg.refl _ _) ⟨es,k,hb,hm⟩ (fun q hq=> .inl (.inl hq))
theorem Sat.emptyI {cx:Cx} {β:Va} {n:Nat} {H:List Bk} {F:List Fact} {w:World} {kk:IntKind} (h:Sat cx β n H F w) (j:Nat) {b:Nat} (hj:nth F j=some (mapF b [])):Sat cx β n H (putAt F j (mapIF kk b [])) w:=by
 obtain ⟨es,k,hb,hm⟩:=h.get j hj
 obtain rfl:es=[]:=List.map_eq_nil_iff.1 hm.cut
 exact h.upd hj rfl (Chg.refl _ _) ⟨[],k,hb,rfl,List.Pairwise.nil,fun _ q=>by cases q⟩ (fun q hq=> .inl hq)
def insK (n:Nat) (pre:List Int) (x:Int) (args:Array Value) (X:Fact):Prop:=args= #[.int .u64 x]/\X=noF/\pre.length<n
theorem z_yt (w:World) (mb:Option Nat):Con Tryz.prog 77 #[.map mb] w [] fun v Fs=> ∃B,v= .func (.func 113) #[] #[.pointer (some ⟨B,0,none⟩)]/\Fs=[bkF B z_ar [.map mb]]:=by
 refine z_ac (cx:=z_bc w (Un [])) (z_b6 w (Un [])) z_cJ rfl rfl (β:=Va.z) [.c (.v (.map mb))] 0 [] [] rfl rfl (Sat.start rfl) ?_
 intro β w' hs
 exact hs.ofBk.fin [0] ⟨β 0,rfl,rfl⟩
theorem z_wd (l:Nat) (w:World) (bx b:Nat) (lm:MLI) (f0 R:Fact) (J Jx:List Int->Fact->Prop) (hJ0:J [] f0) (hJo: ∀pre f,J pre f->f.own=true) (hRo:R.own=false) (hY:Yc Tryz.prog l J Jx R (insK lm.length))
  (hm:Mem w (f0::R::[bkF bx z_ar [.map (some b)],mapIF .u64 b lm])):
  Con Tryz.prog 113 #[.func (.yield l) #[] #[],.pointer (some ⟨bx,0,none⟩)] w [f0,bkF bx z_ar [.map (some b)],mapIF .u64 b lm]
   (fun _ Fs=> ∃f Fs',Fs=f::Fs'/\((∃xs,J xs f/\xs.Perm (lm.map (·.1))/\Fs'=[mapIF .u64 b lm])\/(∃pre,Jx pre f/\Fs'=[mapIF .u64 b lm]))):=by
 have g:=z_bN w (Un [f0,bkF bx z_ar [.map (some b)],mapIF .u64 b lm]) [bx]
 have hs0:Sat (z_aH w (Un [f0,bkF bx z_ar [.map (some b)],mapIF .u64 b lm]) [bx]) (Va.of fun _=>bx) 1 [] (f0::R::[bkF bx z_ar [.map (some b)],mapIF .u64 b lm]) w:=by
  refine hm.sat rfl (fun f hf ho k hk=>?_) ⟨Nat.le_refl 1,fun i hi=>by obtain rfl:i=0:=Nat.lt_one_iff.1 hi;rfl⟩
  simp only [List.mem_cons,List.not_mem_nil,or_false] at hf
  rcases hf with rfl | rfl | rfl | rfl
  ·exact ⟨_,by simp,hk⟩
  ·rw [hRo] at ho;cases ho
  ·exact ⟨bkF bx z_ar [.map (some b)],by simp,hk⟩
  ·exact ⟨mapIF .u64 b lm,by simp,hk⟩
 have hs1:=hs0.toBk 2 rfl 0 Nat.zero_lt_one rfl
 refine z_ac (cx:=z_aH w (Un [f0,bkF bx z_ar [.map (some b)],mapIF .u64 b lm]) [bx]) g z_cj rfl rfl (β:=Va.of fun _=>bx) [.c (.v (.func (.yield l) #[] #[])),.c (.p 0 0)] 1 _ _ rfl rfl hs1 ?_
 refine ⟨Nat,fun r=> .pointer (some ⟨r,0,none⟩),fun r=>[f0,R,itIF .u64 b r lm [] none],fun β w' ty hs=>hs.rangeI g 2 rfl,fun r=>?_⟩
 refine z_ag (ι:=MLI×Fact×Option (Int×Value)) 1 (fun _=>[(0,.c (.v (.func (.yield l) #[] #[]))),(1,.c (.p 0 0)),(5,.c (.v (.pointer (some ⟨r,0,none⟩))))]) (fun _=>[⟨0,z_ar,[.v (.map (some b))]⟩]) (fun i=>[i.2.1,R,itIF .u64 b r lm i.1 i.2.2])
  (fun i=>J (i.1.map (·.1)) i.2.1) (fun i=>lm.length - i.1.length) ([],f0,none) hJ0 (Ent.same ⟨rfl,rfl,rfl,trivial⟩ rfl) g ?_
 rintro ⟨ss,f,cur⟩ hJ
 simp only at hJ
 have hfo:=hJo _ _ hJ
 simp only
 refine ⟨{o:Option (Int×Value)//NxtI lm ss o},fun o=>nxtV .u64 o.1,fun o=>[f,R,nxtF .u64 b r lm ss cur o.1],fun β w' ty hs=>hs.nextI 2 rfl ty,?_⟩
 rintro ⟨o,ho⟩
 cases o with
 | none=>
  have hperm:ss.Perm lm:=ho
  intro β w' hs
  exact ((hs.endI 2 rfl).keepB (List.nil_sublist _)).fin [0,2] ⟨f,_,rfl,.inl ⟨_,hJ,hperm.map _,rfl⟩⟩ rfl rfl rfl ⟨hfo,rfl,trivial⟩
 | some x=>
  have hlt:ss.length<lm.length:=ho.2
  refine ⟨Unit,fun _=> .tuple #[.int .u64 x.1,x.2],fun _=>[f,R,itIF .u64 b r lm (ss++[x]) (some x)],fun β w' ty hs=>⟨(),w',hs.entryI 2 rfl,hs⟩,fun _=>?_⟩
  refine z_dF (X:=noF) (x:=x.1) hY 0 1 rfl hJ hfo rfl hRo (by decide) (fun β=>⟨rfl,rfl,by rw [List.length_map];exact hlt⟩) rfl (fun β w _=>⟨trivial,fun k hk=>hk.elim,fun k _ h=>h.elim⟩) ?_ ?_
  ·intro f2 hfo2 hJ2
   refine ⟨(ss++[x],f2,some x),by show J ((ss++[x]).map (·.1)) f2;rw [List.map_append];exact hJ2,by show lm.length - (ss++[x]).length<lm.length - ss.length;rw [List.length_append];show lm.length - (ss.length+1)<_;omega,Ent.same ⟨rfl,rfl,rfl,trivial⟩ rfl⟩
  ·intro f2 hfo2 hJ2 β w' hs
   exact ((hs.endI 2 rfl).keepB (List.nil_sublist _)).fin [0,2] ⟨f2,_,rfl,.inr ⟨_,hJ2,rfl⟩⟩ rfl rfl rfl ⟨hfo2,rfl,trivial⟩
abbrev urowF (A:Option Addr) (l:List Int) (c:Nat):Fact:=rowF z_aA 1 (.slice A l.length c) l.length (l.map (Value.int .u64))
structure ColN where
 A:Option Addr
 c:Nat
 l:List Int
def GivesN (k:FuncId) (bx:Nat) (ty:TypeId) (cs:List Value) (G G':Fact) (n:Nat) (P:List Int->Prop):Prop:=
 ∀(l:Nat) (w:World) (f0 R:Fact) (J Jx:List Int->Fact->Prop),J [] f0->(∀pre f,J pre f->f.own=true)->R.own=false->Yc Tryz.prog l J Jx R (insK n)->Mem w (f0::R::[bkF bx ty cs,G])->
  Con Tryz.prog k #[.func (.yield l) #[] #[],.pointer (some ⟨bx,0,none⟩)] w [f0,bkF bx ty cs,G] (fun _ Fs=> ∃f Fs',Fs=f::Fs'/\((∃xs,J xs f/\P xs/\Fs'=[G'])\/(∃pre,Jx pre f/\Fs'=[G'])))
theorem z_uU (w:World) (k:FuncId) (bx:Nat) (ty:TypeId) (cs:List Value) (G G':Fact) (n:Nat) (P:List Int->Prop) (hcall:callable Tryz.prog k=true) (hG:G.own=true) (hG':G'.own=true) (hn:n<=1000) (hg:GivesN k bx ty cs G G' n P) (hm:Mem w [bkF bx ty cs,G]):
  Con Tryz.prog 33 #[.slice none 0 0,.func (.func k) #[] #[.pointer (some ⟨bx,0,none⟩)]] w [bkF bx ty cs,G] fun v Fs=> ∃A c l,v= .slice A l.length c/\P l/\l.length<=n/\(0<l.length-> ∃ad,A=some ad)/\Fs=[urowF A l c,G']:=by
 have g:=z_dl w (Un [bkF bx ty cs,G])
 have hml:=maxLen_eq
 have hs0:Sat (z_a4 w (Un [bkF bx ty cs,G])) Va.z 0 [] [bkF bx ty cs,G] w:=hm.sat0 rfl (fun f hf _ k hk=>⟨f,hf,hk⟩)
 refine z_ac (cx:=z_a4 w (Un [bkF bx ty cs,G])) g z_dZ rfl rfl (β:=Va.z) [.c (.v (.slice none 0 0)),.c (.v (.func (.func k) #[] #[.pointer (some ⟨bx,0,none⟩)]))] 0 [] _ rfl rfl hs0 ?_
 refine z_ca (α:=Int) (ι:=ColN) (κ:=Unit) g rfl (cv:=[.pointer (some ⟨bx,0,none⟩)]) rfl hcall 1 (Nat.le_refl 1)
  (fun pre i=>i.l=pre/\pre.length<=n/\(0<i.l.length-> ∃ad,i.A=some ad)) (fun i=>[⟨0,z_ri,[.v (.slice i.A i.l.length i.c)]⟩]) (fun i=>[urowF i.A i.l i.c]) (fun i=>⟨rfl,trivial⟩)
  (fun _ _ _=>False) (fun _=>[]) (fun _=>[]) (fun _=>trivial)
  [bkF bx ty cs,G] [] [] ⟨rfl,hG,trivial⟩ (fun g h=>by cases h) ⟨none,0,[]⟩ ⟨rfl,Nat.zero_le _,fun h=>absurd h (by decide)⟩
  (fun β w hs=>⟨β,Agr.refl _ _,(hs.nilRow z_aA 1).perm [1,2,0]⟩) (insK n)
  (fun xs Fs'=>P xs/\Fs'=[G']) (fun _ Fs'=>Fs'=[G'])
  (fun l w f0 R J Jx hJ0 hJo hRo hY hm=>(hg l w f0 R J Jx hJ0 hJo hRo hY hm).mono fun _ Fs h=>h) ?_ ?_ ?_
 ·rintro ⟨A,c,l⟩ pre x args X W S' lb bs pn pn' hbs ⟨rfl,hlen,hA⟩ ⟨rfl,rfl,hx⟩
  simp only at hA
  have hx0:l.length<n:=hx
  refine ⟨_,rfl,?_⟩
  intro b2
  refine ⟨2,l.length,(l++[x]).length,l.map (Value.int .u64),[Value.int .u64 x],(l++[x]).map (Value.int .u64),rfl,fun β w hs=>z_aj (hs.get 0 rfl),fun u hu=>by obtain rfl:=List.mem_singleton.1 hu;rfl,by simp,by simp,by rw [List.length_append,hml];show l.length+1<=_;omega,by rw [List.length_append];show (l.length+1)*8<=_;omega,?_⟩
  intro A' c' h1 h2 h3
  have e1:(l++[x]).length=l.length+1:=by rw [List.length_append];rfl
  refine ⟨⟨A',c',l++[x]⟩,⟨rfl,by rw [e1];omega,fun _=>?_⟩,Ent.mk' trivial rfl (fun β w hs=>hs.perm [2])⟩
  cases A' with
  | none=>exact absurd (h3 rfl).2 (by decide)
  | some ad=>exact ⟨ad,rfl⟩
 ·rintro xs ⟨A,c,l⟩ Fs ⟨rfl,hlen,hA⟩ ⟨hP,rfl⟩
  simp only at hA
  intro β w' hs
  exact (hs.keepB (List.nil_sublist _)).fin [1,0] ⟨A,c,l,rfl,hP,hlen,hA,rfl⟩ rfl rfl rfl ⟨rfl,hG',trivial⟩
 ·rintro e pre j Fs ⟨⟩
theorem z_kx (w:World) (k:FuncId) (bx:Nat) (ty:TypeId) (cs:List Value) (G G':Fact) (n:Nat) (P:List Int->Prop) (hcall:callable Tryz.prog k=true) (hG:G.own=true) (hG':G'.own=true) (hn:n<=1000) (hg:GivesN k bx ty cs G G' n P) (hm:Mem w [bkF bx ty cs,G]):
  Con Tryz.prog 12 #[.func (.func k) #[] #[.pointer (some ⟨bx,0,none⟩)]] w [bkF bx ty cs,G] fun v Fs=> ∃A c l,v= .slice A l.length c/\P l/\l.length<=n/\(0<l.length-> ∃ad,A=some ad)/\Fs=[urowF A l c,G']:=by
 have g:=z_gs w (Un [bkF bx ty cs,G])
 have hs0:Sat (z_bF w (Un [bkF bx ty cs,G])) Va.z 0 [] [bkF bx ty cs,G] w:=hm.sat0 rfl (fun f hf _ k hk=>⟨f,hf,hk⟩)
 refine z_ac (cx:=z_bF w (Un [bkF bx ty cs,G])) g z_ih rfl rfl (β:=Va.z) [.c (.v (.func (.func k) #[] #[.pointer (some ⟨bx,0,none⟩)]))] 0 [] _ rfl rfl hs0 ?_
 refine z_aa [0,1] (hown:=⟨rfl,hG,trivial⟩) (fun β w' hs=>z_uU w' k bx ty cs G G' n P hcall hG hG' hn hg (hs.mem.take (js:=[0,1]) rfl)) ?_
 rintro v Fs ⟨A,c,l,rfl,hP,hlen,hA,rfl⟩
 intro β w' hs
 exact hs.fin [0,1] ⟨A,c,l,rfl,hP,hlen,hA,rfl⟩ rfl rfl rfl ⟨rfl,hG',trivial⟩
theorem z_sp (bx b:Nat) (lm:MLI):GivesN 113 bx z_ar [.map (some b)] (mapIF .u64 b lm) (mapIF .u64 b lm) lm.length (fun xs=>xs.Perm (lm.map (·.1))):=
 fun l w f0 R J Jx hJ0 hJo hRo hY hm=>z_wd l w bx b lm f0 R J Jx hJ0 hJo hRo hY hm
theorem z_w7 (w:World) (x:Int):Pu Tryz.prog z_gV #[.int .u64 x] w (.bool false):=by
 have g:=z_kk w (Un [])
 refine z_ac (cx:=z_gf w (Un [])) g z_l3 rfl rfl (β:=Va.z) [.c (.v (.int .u64 x))] 0 [] [] rfl rfl (Sat.start rfl) ?_
 intro β w' hs
 refine hs.fin [] ⟨?_,rfl⟩
 show Value.bool (!decide (x=x))=_
 simp
theorem z_el (w:World) (x y:Int):Pu Tryz.prog z_hz #[.int .u64 x,.int .u64 y] w (.bool (decide (x<y))):=by
 have g:=z_kY w (Un [])
 refine z_ac (cx:=z_gY w (Un [])) g z_ng rfl rfl (β:=Va.z) [.c (.v (.int .u64 x)),.c (.v (.int .u64 y))] 0 [] [] rfl rfl (Sat.start rfl) ?_
 refine z_ah (fun β w' hs=>z_w7 w' x) ?_
 intro β w' hs
 exact hs.fin [] ⟨rfl,rfl⟩
def at0 (l:List Int) (q:Nat):Int:=l.getD q 0
def sw (l:List Int) (j:Nat):List Int:=(l.set j (at0 l (j - 1))).set (j - 1) (at0 l j)
theorem z_p8 {l:List Int} {q:Nat} (h:q<l.length):l[q]?=some (at0 l q):=by
 simp [at0,List.getD,h]
theorem z_vt (l:List Int) (j:Nat):(sw l j).length=l.length:=by simp [sw]
theorem z_xA {l:List Int} {j:Nat} (h1:1<=j) (h2:j<l.length) (q:Nat):at0 (sw l j) q=if q=j - 1 then at0 l j else if q=j then at0 l (j - 1) else at0 l q:=by
 unfold sw at0
 simp only [List.getD_eq_getElem?_getD,List.getElem?_set,List.length_set]
 by_cases a:j - 1=q
 ·have a':q=j - 1:=a.symm
  rw [if_pos a,if_pos (by omega),if_pos a']
  rfl
 ·have a': ¬q=j - 1:=fun e=>a e.symm
  rw [if_neg a,if_neg a']
  by_cases b:j=q
  ·have b':q=j:=b.symm
   rw [if_pos b,if_pos h2,if_pos b']
   rfl
  ·have b': ¬q=j:=fun e=>b e.symm
   rw [if_neg b,if_neg b']
theorem z_uS {l:List Int} {j:Nat} (h1:1<=j) (h2:j<l.length):(sw l j).Perm l:=by
 have e1:at0 l (j - 1)=l[j - 1]'(by omega):=by simp [at0,List.getD,List.getElem?_eq_getElem (show j - 1<l.length by omega)]
 have e2:at0 l j=l[j]:=by simp [at0,List.getD,List.getElem?_eq_getElem h2]
 unfold sw
 rw [e1,e2]
 exact List.set_set_perm h2 (by omega)
def But (l:List Int) (i j:Nat):Prop:= ∀p q,p<q->q<=i->q≠j->at0 l p<=at0 l q
def Upto (l:List Int) (i:Nat):Prop:= ∀p q,p<q->q<i->at0 l p<=at0 l q
theorem But.start {l:List Int} {i:Nat} (h:Upto l i):But l i i:=fun p q h1 h2 h3=>h p q h1 (by omega)
theorem But.swap {l:List Int} {i j:Nat} (h:But l i j) (h1:1<=j) (h2:j<=i) (h3:i<l.length) (hlt:at0 l j<at0 l (j - 1)):But (sw l j) i (j - 1):=by
 intro p q hpq hq hne
 rw [z_xA h1 (by omega),z_xA h1 (by omega),if_neg hne]
 by_cases b:q=j
 ·subst b
  rw [if_pos rfl]
  by_cases a:p=q - 1
  ·rw [if_pos a]
   omega
  ·rw [if_neg a,if_neg (by omega)]
   exact h p (q - 1) (by omega) (by omega) (by omega)
 ·rw [if_neg b]
  by_cases a:p=j - 1
  ·rw [if_pos a]
   exact h j q (by omega) hq b
  ·rw [if_neg a]
   by_cases c:p=j
   ·rw [if_pos c]
    exact h (j - 1) q (by omega) hq b
   ·rw [if_neg c]
    exact h p q hpq hq b
theorem But.done {l:List Int} {i j:Nat} (h:But l i j) (h2:j<=i) (hj:1<=j-> ¬at0 l j<at0 l (j - 1)):Upto l (i+1):=by
 intro p q hpq hq
 by_cases b:q=j
 ·subst b
  have h3:=hj (by omega)
  by_cases a:p=q - 1
  ·subst a
   omega
  ·have:=h p (q - 1) (by omega) (by omega) (by omega)
   omega
 ·exact h p q hpq (by omega) b
theorem uset (l:List Int) (j:Nat) (x:Int):putAll (l.map (Value.int .u64)) (j*1) [.int .u64 x]=(l.set j x).map (Value.int .u64):=by
 rw [putAll,putAll,z_aT,Nat.mul_one,List.map_set]
theorem z_y0 (w:World) (A:Option Addr) (l:List Int) (c:Nat) (hl:l.length<=12) (hm:Mem w [urowF A l c]):
  Con Tryz.prog z_aW #[.slice A l.length c,.int .i64 0,.int .i64 (l.length:Int)] w [urowF A l c] fun v Fs=>v= .tuple #[]/\ ∃l',l'.Perm l/\Upto l' l.length/\Fs=[urowF A l' c]:=by
 have g:=z_aO w (Un [urowF A l c])
 have hs0:Sat (z_ap w (Un [urowF A l c])) Va.z 0 [] [urowF A l c] w:=hm.sat0 rfl (fun f hf _ k hk=>⟨f,hf,hk⟩)
 have hA:0<l.length-> ∃g0,A=some ⟨g0,0,none⟩:=fun h=>by
  have ho:w.ownsRow 0 z_aA 1 (.slice A l.length c) l.length (l.map (Value.int .u64)):=hm.fact _ List.mem_cons_self
  rcases ho.2 with ⟨_,h0⟩ | ⟨g0,cap,cur,hv,_⟩
  ·exact absurd h0 (by omega)
  ·injection hv with q _ _
   exact ⟨g0,q⟩
 obtain ⟨N,hN⟩: ∃N,l.length=N:=⟨_,rfl⟩
 rw [hN] at hl hA ⊢
 refine z_ac (cx:=z_ap w (Un [urowF A l c])) g z_aV rfl rfl (β:=Va.z) [.c (.v (.slice A N c)),.c (.v (.int .i64 0)),.c (.v (.int .i64 (N:Int)))] 0 [] _ rfl rfl hs0 ?_
 refine ⟨1,rfl,?_⟩
 refine z_ag (ι:=List Int×Nat) 0 (fun i=>[(0,.c (.v (.slice A N c))),(1,.c (.v (.int .i64 0))),(2,.c (.v (.int .i64 (N:Int)))),(6,.c (.v (.int .i64 (i.2:Int))))]) (fun _=>[]) (fun i=>[urowF A i.1 c])
  (fun i=>i.1.Perm l/\1<=i.2/\Upto i.1 i.2/\i.2<=N+1) (fun i=>N+1 - i.2) (l,1) ⟨List.Perm.refl _,Nat.le_refl _,fun p q h1 h2=>by omega,by omega⟩ (Ent.same ⟨rfl,rfl,rfl,rfl,trivial⟩ rfl) g ?_
 rintro ⟨xs,i⟩ ⟨hp,hi1,hu,hiN⟩
 simp only at hp hi1 hu hiN
 have hxl:xs.length=N:=by rw [hp.length_eq,hN]
 refine BIf.dec (fun hlt=>?_) (fun hge=>?_)
 ·have hlt0:(i:Int)<N:=hlt
  have hiN2:i<N:=by omega
  obtain ⟨g0,rfl⟩:=hA (by omega)
  refine z_ag (ι:=List Int×Nat) 0 (fun y=>[(0,.c (.v (.slice (some ⟨g0,0,none⟩) N c))),(1,.c (.v (.int .i64 0))),(2,.c (.v (.int .i64 (N:Int)))),(6,.c (.v (.int .i64 (i:Int)))),(7,.c (.v (.int .i64 (y.2:Int))))]) (fun _=>[]) (fun y=>[urowF (some ⟨g0,0,none⟩) y.1 c])
   (fun y=>y.1.Perm l/\But y.1 i y.2/\y.2<=i) (fun y=>y.2) (xs,i) ⟨hp,But.start hu,Nat.le_refl _⟩ (Ent.same ⟨rfl,rfl,rfl,rfl,rfl,trivial⟩ rfl) g ?_
  rintro ⟨ys,j⟩ ⟨hyp,hb,hji⟩
  simp only at hyp hb hji
  have hyl:ys.length=N:=by rw [hyp.length_eq,hN]
  refine z_af g z_be (by kernel_rfl) _ _ Sub.refl ?_
  have hcell: ∀q,q<N-> ∀ {cx:Cx} {β:Va} {w':World} {n:Nat} {H:List Bk},Sat cx β n H [urowF (some ⟨g0,0,none⟩) ys c] w'->w'.cell? ((⟨g0,0,none⟩:Addr).add (q*1))=some (.int .u64 (at0 ys q)):=by
   intro q hq cx β w' n H hs
   have h:=z_aj (hs.get 0 rfl)
   exact Rd.cell1 h (by rw [List.getElem?_map,z_p8 (by omega)];rfl)
  refine BIf.dec (fun hj=>?_) (fun hj=>?_)
  ·have hj0:(0:Int)<j:=hj
   refine ⟨⟨g0,0,none⟩,j,rfl,rfl,by omega,.int .u64 (at0 ys j),fun β w' hs=>hcell j (by omega) hs,?_⟩
   refine ⟨((j - 1:Nat):Int),by rw [wrap_i64 (by omega) (by omega)];omega,?_⟩
   refine ⟨⟨g0,0,none⟩,j - 1,rfl,rfl,by omega,.int .u64 (at0 ys (j - 1)),fun β w' hs=>hcell (j - 1) (by omega) hs,?_⟩
   obtain ⟨bb,hbb⟩: ∃bb,decide (at0 ys j<at0 ys (j - 1))=bb:=⟨_,rfl⟩
   refine z_ah (v:= .bool bb) (fun β w' hs=>by rw [<-hbb];exact z_el w' _ _) ?_
   refine ⟨Sub.refl,?_⟩
   cases bb with
   | true=>
    have hlt2:at0 ys j<at0 ys (j - 1):=of_decide_eq_true hbb
    have hS: ∀ {n:Nat} {H:List Bk} {F:List Fact},Sub (z_ap w (Un [urowF (some ⟨g0,0,none⟩) l c])) n H F [] []:=fun {n H F}=>Sub.of (List.nil_sublist _) (List.nil_sublist _)
    refine z_af g z_bf (by kernel_rfl) [] [] hS ?_
    refine ⟨((j - 1:Nat):Int),by rw [wrap_i64 (by omega) (by omega)];omega,?_⟩
    refine ⟨((j - 1:Nat):Int),by rw [wrap_i64 (by omega) (by omega)];omega,?_⟩
    refine ⟨⟨g0,0,none⟩,j - 1,rfl,rfl,by omega,?_⟩
    refine ⟨⟨g0,0,none⟩,j,rfl,rfl,by omega,?_⟩
    have hsl:(sw ys j).length=N:=by rw [z_vt,hyl]
    refine ⟨?_,?_⟩
    ·skip
     refine ⟨.int .u64 (at0 ys (j - 1)),fun β w' hs=>hcell (j - 1) (by omega) hs,?_⟩
     refine ⟨hS,?_⟩
     refine ⟨.int .u64 (at0 ys j),fun β w' hs=>hcell j (by omega) hs,?_⟩
     refine ⟨hS,?_⟩
     refine ⟨⟨g0,0,none⟩,j,rfl,rfl,by omega,?_⟩
     refine ⟨_,fun β w' hs=>Sat.rowSet hs (j:=0) (us:=[.int .u64 (at0 ys (j - 1))]) rfl (by show j*1+1<=ys.length*1;omega) (fun u hu=>by obtain rfl:=List.mem_singleton.1 hu;rfl),?_⟩
     refine ⟨hS,?_⟩
     refine ⟨⟨g0,0,none⟩,j - 1,rfl,rfl,by omega,?_⟩
     refine ⟨_,fun β w' hs=>Sat.rowSet hs (j:=0) (us:=[.int .u64 (at0 ys j)]) rfl (by show (j - 1)*1+1<=ys.length*1;omega) (fun u hu=>by obtain rfl:=List.mem_singleton.1 hu;rfl),?_⟩
     refine ⟨hS,?_⟩
     refine ⟨((j - 1:Nat):Int),by rw [wrap_i64 (by omega) (by omega)];omega,?_⟩
     exact ⟨(sw ys j,j - 1),⟨(z_uS (by omega) (by omega)).trans hyp,hb.swap (by omega) hji (by omega) hlt2,by show j - 1<=i;omega⟩,by show j - 1<j;omega,Ent.mk' ⟨rfl,rfl,rfl,rfl,rfl,trivial⟩ rfl (fun β w' hs=>by
      show Sat _ _ _ _ [rowF z_aA 1 (.slice (some ⟨g0,0,none⟩) (sw ys j).length c) (sw ys j).length ((sw ys j).map (Value.int .u64))] _
      rw [z_vt]
      have e:(sw ys j).map (Value.int .u64)=putAll (putAll (ys.map (Value.int .u64)) (j*1) [.int .u64 (at0 ys (j - 1))]) ((j - 1)*1) [.int .u64 (at0 ys j)]:=by rw [uset,uset];rfl
      rw [e]
      exact hs)⟩
    ·skip
     refine ⟨.int .u64 (at0 ys j),fun β w' hs=>hcell j (by omega) hs,?_⟩
     refine ⟨hS,?_⟩
     refine ⟨.int .u64 (at0 ys (j - 1)),fun β w' hs=>hcell (j - 1) (by omega) hs,?_⟩
     refine ⟨hS,?_⟩
     refine ⟨⟨g0,0,none⟩,j,rfl,rfl,by omega,?_⟩
     refine ⟨_,fun β w' hs=>Sat.rowSet hs (j:=0) (us:=[.int .u64 (at0 ys (j - 1))]) rfl (by show j*1+1<=ys.length*1;omega) (fun u hu=>by obtain rfl:=List.mem_singleton.1 hu;rfl),?_⟩
     refine ⟨hS,?_⟩
     refine ⟨⟨g0,0,none⟩,j - 1,rfl,rfl,by omega,?_⟩
     refine ⟨_,fun β w' hs=>Sat.rowSet hs (j:=0) (us:=[.int .u64 (at0 ys j)]) rfl (by show (j - 1)*1+1<=ys.length*1;omega) (fun u hu=>by obtain rfl:=List.mem_singleton.1 hu;rfl),?_⟩
     refine ⟨hS,?_⟩
     refine ⟨((j - 1:Nat):Int),by rw [wrap_i64 (by omega) (by omega)];omega,?_⟩
     exact ⟨(sw ys j,j - 1),⟨(z_uS (by omega) (by omega)).trans hyp,hb.swap (by omega) hji (by omega) hlt2,by show j - 1<=i;omega⟩,by show j - 1<j;omega,Ent.mk' ⟨rfl,rfl,rfl,rfl,rfl,trivial⟩ rfl (fun β w' hs=>by
      show Sat _ _ _ _ [rowF z_aA 1 (.slice (some ⟨g0,0,none⟩) (sw ys j).length c) (sw ys j).length ((sw ys j).map (Value.int .u64))] _
      rw [z_vt]
      have e:(sw ys j).map (Value.int .u64)=putAll (putAll (ys.map (Value.int .u64)) (j*1) [.int .u64 (at0 ys (j - 1))]) ((j - 1)*1) [.int .u64 (at0 ys j)]:=by rw [uset,uset];rfl
      rw [e]
      exact hs)⟩
   | false=>
    refine ⟨((i+1:Nat):Int),by rw [wrap_i64 (by omega) (by omega)];rfl,?_⟩
    exact ⟨(ys,i+1),⟨hyp,by show 1<=i+1;omega,hb.done hji (fun _=>of_decide_eq_false hbb),by show i+1<=N+1;omega⟩,by show N+1 - (i+1)<N+1 - i;omega,Ent.same ⟨rfl,rfl,rfl,rfl,trivial⟩ rfl⟩
  ·have hj0: ¬(0:Int)<j:=hj
   refine ⟨Sub.refl,?_⟩
   refine ⟨((i+1:Nat):Int),by rw [wrap_i64 (by omega) (by omega)];rfl,?_⟩
   exact ⟨(ys,i+1),⟨hyp,by show 1<=i+1;omega,hb.done hji (fun h=>by omega),by show i+1<=N+1;omega⟩,by show N+1 - (i+1)<N+1 - i;omega,Ent.same ⟨rfl,rfl,rfl,rfl,trivial⟩ rfl⟩
 ·have hge0: ¬(i:Int)<N:=hge
  intro β w' hs
  exact hs.fin [0] ⟨rfl,xs,hp,fun p q h1 h2=>hu p q h1 (by omega),rfl⟩
theorem z_zf (w:World) (A:Option Addr) (l:List Int) (c:Nat) (m:Int) (hl:l.length<=12) (hm:Mem w [urowF A l c]):
  Con Tryz.prog z_bd #[.slice A l.length c,.int .i64 0,.int .i64 (l.length:Int),.int .i64 m] w [urowF A l c] fun v Fs=>v= .tuple #[]/\ ∃l',l'.Perm l/\Upto l' l.length/\Fs=[urowF A l' c]:=by
 have g:=z_by w (Un [urowF A l c])
 have hs0:Sat (z_aP w (Un [urowF A l c])) Va.z 0 [] [urowF A l c] w:=hm.sat0 rfl (fun f hf _ k hk=>⟨f,hf,hk⟩)
 refine z_ac (cx:=z_aP w (Un [urowF A l c])) g z_bT rfl rfl (β:=Va.z) [.c (.v (.slice A l.length c)),.c (.v (.int .i64 0)),.c (.v (.int .i64 (l.length:Int))),.c (.v (.int .i64 m))] 0 [] _ rfl rfl hs0 ?_
 refine z_ag 0 (fun _:Unit=>[(0,.c (.v (.slice A l.length c))),(1,.c (.v (.int .i64 0))),(2,.c (.v (.int .i64 (l.length:Int))))]) (fun _=>[]) (fun _=>[urowF A l c]) (fun _=>True) (fun _=>0) () trivial (Ent.same ⟨rfl,rfl,rfl,trivial⟩ rfl) g ?_
 rintro ⟨⟩ -
 refine ⟨(l.length:Int),by rw [Int.sub_zero,wrap_i64 (by omega) (by omega)],?_⟩
 refine BIf.dec (fun _=>?_) (fun h=>absurd (show (l.length:Int)<=12 by omega) h)
 refine z_aa [0] (fun β w' hs=>z_y0 w' A l c hl (hs.mem.take (js:=[0]) rfl)) ?_
 rintro v Fs ⟨rfl,l',h1,h2,rfl⟩
 intro β w' hs
 exact hs.fin [0] ⟨rfl,l',h1,h2,rfl⟩
theorem z_yc (x:Nat) (hx:x<18446744073709551616): ∃r:Int,∀w,Pu Tryz.prog z_jh #[.int .u64 (x:Int)] w (.int .i64 r):=by
 refine ⟨((Lib.bitLen (x:Int).toNat:Nat):Int),fun w=>pu_of (Calls.mono (Tryz.bits_Len (x:Int) w (by omega) (by omega)) ?_)⟩
 rintro e w' ⟨rfl,rfl⟩
 exact ⟨_,rfl,rfl,Chg.refl _ _⟩
theorem z_yM (w:World) (A:Option Addr) (l:List Int) (c:Nat) (hl:l.length<=12) (hm:Mem w [urowF A l c]):
  Con Tryz.prog z_bq #[.slice A l.length c] w [urowF A l c] fun v Fs=>v= .tuple #[]/\ ∃l',l'.Perm l/\Upto l' l.length/\Fs=[urowF A l' c]:=by
 have g:=z_bU w (Un [urowF A l c])
 have hs0:Sat (z_a0 w (Un [urowF A l c])) Va.z 0 [] [urowF A l c] w:=hm.sat0 rfl (fun f hf _ k hk=>⟨f,hf,hk⟩)
 refine z_ac (cx:=z_a0 w (Un [urowF A l c])) g z_cE rfl rfl (β:=Va.z) [.c (.v (.slice A l.length c))] 0 [] _ rfl rfl hs0 ?_
 refine ⟨(l.length:Int),by rw [z_aD];omega,?_⟩
 obtain ⟨r,hr⟩:=z_yc l.length (by omega)
 refine z_ah (fun β w' hs=>hr w') ?_
 refine z_aa [0] (fun β w' hs=>z_zf w' A l c r hl (hs.mem.take (js:=[0]) rfl)) ?_
 rintro v Fs ⟨rfl,l',h1,h2,rfl⟩
 intro β w' hs
 exact hs.fin [0] ⟨rfl,l',h1,h2,rfl⟩
theorem z_u8 {l:List Int} (h:Upto l l.length):l.Pairwise (· <= ·):=by
 rw [List.pairwise_iff_getElem]
 intro p q hp hq hpq
 have:=h p q hpq hq
 simpa [at0,List.getD,hp,hq] using this
theorem z_vl (w:World) (k:FuncId) (bx:Nat) (ty:TypeId) (cs:List Value) (G G':Fact) (n:Nat) (P:List Int->Prop) (hcall:callable Tryz.prog k=true) (hG:G.own=true) (hG':G'.own=true) (hn:n<=12) (hg:GivesN k bx ty cs G G' n P) (hm:Mem w [bkF bx ty cs,G]):
  Con Tryz.prog 35 #[.func (.func k) #[] #[.pointer (some ⟨bx,0,none⟩)]] w [bkF bx ty cs,G] fun v Fs=> ∃A c l,v= .slice A l.length c/\(∃l0,P l0/\l.Perm l0)/\l.length<=n/\l.Pairwise (· <= ·)/\(0<l.length-> ∃ad,A=some ad)/\Fs=[urowF A l c,G']:=by
 have g:=z_c4 w (Un [bkF bx ty cs,G])
 have hs0:Sat (z_a3 w (Un [bkF bx ty cs,G])) Va.z 0 [] [bkF bx ty cs,G] w:=hm.sat0 rfl (fun f hf _ k hk=>⟨f,hf,hk⟩)
 refine z_ac (cx:=z_a3 w (Un [bkF bx ty cs,G])) g z_ef rfl rfl (β:=Va.z) [.c (.v (.func (.func k) #[] #[.pointer (some ⟨bx,0,none⟩)]))] 0 [] _ rfl rfl hs0 ?_
 refine z_aa [0,1] (hown:=⟨rfl,hG,trivial⟩) (fun β w' hs=>z_kx w' k bx ty cs G G' n P hcall hG hG' (by omega) hg (hs.mem.take (js:=[0,1]) rfl)) ?_
 rintro v Fs ⟨A,c,l,rfl,hP,hlen,hA,rfl⟩
 refine z_aa [0] (fun β w' hs=>z_yM w' A l c (by omega) (hs.mem.take (js:=[0]) rfl)) ?_
 rintro v Fs ⟨rfl,l',h1,h2,rfl⟩
 have hl:=h1.length_eq
 intro β w' hs
 refine hs.fin [0,1] ⟨A,c,l',by rw [hl];rfl,⟨l,hP,h1⟩,by omega,z_u8 (by rw [hl];exact h2),by rw [hl];exact hA,rfl⟩ rfl rfl rfl ⟨rfl,hG',trivial⟩
def decimS (u:Nat):ByteArray:=⟨(Lib.decDigits u).toArray⟩
theorem z_wP (w:World) (u:Nat) (hu:u<100):Pu Tryz.prog z_hP #[.int .i64 (u:Int)] w (.string (decimS u)):=by
 refine pu_of (Calls.mono (Tryz.internal_strconv_small u hu w) ?_)
 rintro e w' ⟨rfl,rfl⟩
 exact ⟨_,rfl,rfl,Chg.refl _ _⟩
theorem z_y4 (w:World) (u:Nat) (hu:u<100):Pu Tryz.prog z_b8 #[.int .u64 (u:Int),.int .i64 10] w (.string (decimS u)):=by
 obtain ⟨x,hx⟩: ∃x:Int,(u:Int)=x:=⟨_,rfl⟩
 rw [hx]
 refine z_ac (cx:=z_bR w (Un [])) (z_d3 w (Un [])) z_e4 rfl rfl (β:=Va.z) [.c (.v (.int .u64 x)),.c (.v (.int .i64 10))] 0 [] [] rfl rfl (Sat.start rfl) ?_
 refine BIf.dec (fun _=>?_) (fun h=>absurd (show x<100 by omega) h)
 refine ⟨x,by rw [wrap_i64 (by omega) (by omega)],?_⟩
 refine z_ah (fun β w' hs=>by rw [<-hx];exact z_wP w' u hu) ?_
 intro β w' hs
 exact hs.fin [] ⟨rfl,rfl⟩
theorem z_zl (w:World) (u:Nat) (hu:u<100):Pu Tryz.prog z_fq #[.int .u64 (u:Int),.int .i64 10] w (.string (decimS u)):=by
 refine z_ac (cx:=z_eP w (Un [])) (z_hU w (Un [])) z_kK rfl rfl (β:=Va.z) [.c (.v (.int .u64 (u:Int))),.c (.v (.int .i64 10))] 0 [] [] rfl rfl (Sat.start rfl) ?_
 refine z_ah (fun β w' hs=>z_y4 w' u hu) ?_
 intro β w' hs
 exact hs.fin [] ⟨rfl,rfl⟩
structure RKey where
 e:Nat
 A:Option Addr
 c:Nat
 p:List UInt8
structure Rg where
 b:Nat
 bx:Nat
 mA:Option Addr
 mc:Nat
 master:List UInt8
 room:Nat
 m:Nat
 ks:List RKey
 epoch:Nat
def RKey.v (k:RKey):Value:= .slice k.A k.p.length k.c
def RKey.f (k:RKey):Fact:=browF z_ab k.A k.p k.c
def Rg.vs (r:Rg):List Value:=[.pointer (some ⟨r.bx,0,none⟩),.slice r.mA r.master.length r.mc,.int .i64 (r.room:Int),.map (some r.m),.int .u64 (r.epoch:Int)]
def Rg.ml (r:Rg):MLI:=r.ks.map fun k=>((k.e:Int),k.v)
def rgF (r:Rg):Fact:=sepF [bkF r.b z_cH r.vs,browF z_ab r.mA r.master r.mc,mapIF .u64 r.m r.ml,sepF (r.ks.map RKey.f)]
theorem rg_bk {r:Rg} {w:World} (h:(rgF r).p w):(bkF r.b z_cH r.vs).p w:=h.1 _ (by simp)
theorem z_xB {r:Rg} {w:World} (h:(rgF r).p w):mapIP .u64 r.m r.ml w:=h.1 (mapIF .u64 r.m r.ml) (by simp)
def ptrR (b:Nat):Value:= .pointer (some ⟨b,0,none⟩)
theorem z_ai {b ty:Nat} {cs:List Value} {w:World} (h:(bkF b ty cs).p w) {o:Nat} {v:Value} (ho:cs[o]?=some v):w.cell? ⟨b,o,none⟩=some v:=by
 have hb:w.heap[b]?=some (.cells cs.toArray ty (0,0)):=h
 rw [cell_of_row w b o _ _ _ hb]
 simpa using ho
def Rg.es (r:Rg):List Int:=r.ks.map fun k=>(k.e:Int)
theorem Rg.ml_es (r:Rg):r.ml.map (·.1)=r.es:=by simp [Rg.ml,Rg.es]
def onFst {α β:Type} (pre:List α) (a b:β):β:=match pre with | []=>a | _::_=>b
def insE (r:Rg) (L:List Int) (pre:List Int) (x:Int) (args:Array Value) (X:Fact):Prop:=
 args= #[.int .u64 x]/\X=onFst pre (rgF r) noF/\L[pre.length]?=some x
def Rg.rise (r:Rg):List Int:=r.es.mergeSort fun x y=>decide (x<=y)
theorem z_yw {r:Rg} {l:List Int} (h:l.Perm r.es) (hs:l.Pairwise (· <= ·)):l=r.rise:=by
 have h2:=List.pairwise_mergeSort (le:=fun x y:Int=>decide (x<=y)) (fun a b c p q=>by simp only [decide_eq_true_eq] at *;omega) (fun a b=>by simp only [Bool.or_eq_true,decide_eq_true_eq];omega) r.es
 refine List.Perm.eq_of_pairwise (le:=fun x y=>x<=y) (fun a b _ _ p q=>by omega) hs (h2.imp fun p=>of_decide_eq_true p) (h.trans (List.mergeSort_perm _ _).symm)
theorem ep_it (l:Nat) (w:World) (bx:Nat) (r:Rg) (f0 R:Fact) (J Jx:List Int->Fact->Prop) (hL:r.ks.length<=12) (hJ0:J [] f0) (hJo: ∀pre f,J pre f->f.own=true) (hRo:R.own=false) (hY:Yc Tryz.prog l J Jx R (insE r r.rise))
  (hm:Mem w (f0::R::[bkF bx z_ax [ptrR r.b],rgF r])):
  Con Tryz.prog z_cY #[.func (.yield l) #[] #[],.pointer (some ⟨bx,0,none⟩)] w [f0,bkF bx z_ax [ptrR r.b],rgF r]
   (fun _ Fs=> ∃f Fs',Fs=f::Fs'/\((∃xs,J xs f/\xs=r.rise/\Fs'=onFst r.rise [rgF r] [])\/(∃pre,Jx pre f/\Fs'=[]))):=by
 have g:=z_h4 w (Un [f0,bkF bx z_ax [ptrR r.b],rgF r]) [bx]
 have hs0:Sat (z_ct w (Un [f0,bkF bx z_ax [ptrR r.b],rgF r]) [bx]) (Va.of fun _=>bx) 1 [] (f0::R::[bkF bx z_ax [ptrR r.b],rgF r]) w:=by
  refine hm.sat rfl (fun f hf ho k hk=>?_) ⟨Nat.le_refl 1,fun i hi=>by obtain rfl:i=0:=Nat.lt_one_iff.1 hi;rfl⟩
  simp only [List.mem_cons,List.not_mem_nil,or_false] at hf
  rcases hf with rfl | rfl | rfl | rfl
  ·exact ⟨_,by simp,hk⟩
  ·rw [hRo] at ho;cases ho
  ·exact ⟨bkF bx z_ax [ptrR r.b],by simp,hk⟩
  ·exact ⟨rgF r,by simp,hk⟩
 have hs1:=((hs0.toBk 2 rfl 0 Nat.zero_lt_one rfl).unsep 2 rfl)
 refine z_ac (cx:=z_ct w (Un [f0,bkF bx z_ax [ptrR r.b],rgF r]) [bx]) g z_kJ rfl rfl (β:=Va.of fun _=>bx) [.c (.v (.func (.yield l) #[] #[])),.c (.p 0 0)] 1 _ _ rfl rfl hs1 ?_
 have hml:r.ml.length=r.ks.length:=by rw [Rg.ml,List.length_map]
 refine ⟨.map (some r.m),fun β w' hs=>z_ai (hs.get 0 rfl) (o:=3) rfl,?_⟩
 refine z_aa [] (fun β w' hs=>z_yt w' (some r.m)) ?_
 rintro v Fs ⟨B,rfl,rfl⟩
 refine z_oF [0,3] (fun β w' hs=>z_vl w' _ B _ _ _ _ r.ml.length _ (by kernel_rfl) rfl rfl (by omega) (z_sp B r.m r.ml) (hs.mem.take (js:=[0,3]) rfl)) ?_
 rintro v Fs ⟨A,c,L,rfl,⟨l0,hp0,hp1⟩,hLl,hris,hA0,rfl⟩
 have hLr:L=r.rise:=z_yw ((hp1.trans hp0).trans (by rw [Rg.ml_es])) hris
 subst hLr
 refine ⟨_,_,fun β w' hs=>(hs.sep [2,3,1,4] rfl ⟨rfl,rfl,rfl,rfl,trivial⟩).perm [1,2,3,0],?_⟩
 generalize hN:r.rise=L at *
 have hL12:L.length<=12:=by omega
 refine z_ag (ι:=List Int×Fact) 1 (fun i=>[(0,.c (.v (.func (.yield l) #[] #[]))),(1,.c (.p 0 0)),(12,.c (.v (.slice A L.length c))),(13,.c (.v (.int .i64 (L.length:Int)))),(14,.c (.v (.int .i64 (i.1.length:Int))))]) (fun _=>[⟨0,z_ax,[.v (ptrR r.b)]⟩]) (fun i=>urowF A L c::i.2::R::onFst i.1 [rgF r] [])
  (fun i=>J i.1 i.2/\i.1=L.take i.1.length/\i.1.length<=L.length) (fun i=>L.length - i.1.length) ([],f0) ⟨hJ0,rfl,Nat.zero_le _⟩ (Ent.same ⟨rfl,rfl,rfl,rfl,rfl,trivial⟩ rfl) g ?_
 rintro ⟨pre,f⟩ ⟨hJ,hpre,hi⟩
 simp only at hJ hpre hi
 have hfo:=hJo _ _ hJ
 simp only
 refine BIf.dec (fun hlt=>?_) (fun hge=>?_)
 ·have hlt0:(pre.length:Int)<L.length:=hlt
  have hkl:pre.length<L.length:=by omega
  obtain ⟨x,hx,_⟩:=at_lt hkl
  obtain ⟨ad,hAd⟩:=hA0 (by omega)
  have hnext:pre++[x]=L.take (pre++[x]).length:=by
   have e:(pre++[x]).length=pre.length+1:=by rw [List.length_append];rfl
   rw [e,List.take_add_one,hx,<-hpre]
   rfl
  have e:(pre++[x]).length=pre.length+1:=by rw [List.length_append];rfl
  refine ⟨ad,pre.length,hAd,rfl,hkl,.int .u64 x,fun β w' hs=>?_,?_⟩
  ·have h:=z_aj (hs.get 0 rfl)
   rw [hAd] at h
   exact Rd.cell1 h (by simp [hx])
  cases pre with
  | nil=>
   refine z_vn (X:=rgF r) (x:=x) hY 1 2 3 rfl hJ hfo rfl rfl rfl (by decide) (by decide) (by decide) (fun β=>⟨rfl,rfl,hx⟩) ?_ ?_
   ·intro f2 hfo2 hJ2
    refine ⟨1,by rw [wrap_i64 (by omega) (by omega)];rfl,?_⟩
    refine ⟨([x],f2),⟨hJ2,hnext,by show 1<=L.length;exact hkl⟩,by show L.length - 1<L.length - 0;have:0<L.length:=hkl;omega,?_⟩
    exact Ent.mk' ⟨rfl,rfl,rfl,rfl,rfl,trivial⟩ rfl (fun β w' hs=>hs.perm [1,0,2])
   ·intro f2 hfo2 hJ2 β w' hs
    exact (hs.keepB (List.nil_sublist _)).fin [0] ⟨f2,_,rfl,.inr ⟨_,hJ2,rfl⟩⟩ rfl rfl rfl ⟨hfo2,trivial⟩
  | cons y ys=>
   refine z_dF (X:=noF) (x:=x) hY 1 2 rfl hJ hfo rfl hRo (by decide) (fun β=>⟨rfl,rfl,hx⟩) rfl (fun β w _=>⟨trivial,fun k hk=>hk.elim,fun k _ h=>h.elim⟩) ?_ ?_
   ·intro f2 hfo2 hJ2
    refine ⟨(((y::ys).length+1:Nat):Int),by rw [wrap_i64 (by omega) (by omega)];rfl,?_⟩
    refine ⟨(y::ys++[x],f2),⟨hJ2,hnext,by show (y::ys++[x]).length<=_;rw [e];omega⟩,by show L.length - (y::ys++[x]).length<L.length - (y::ys).length;rw [e];omega,?_⟩
    simp only [e]
    exact Ent.mk' ⟨rfl,rfl,rfl,rfl,rfl,trivial⟩ rfl (fun β w' hs=>hs.perm [1,0,2])
   ·intro f2 hfo2 hJ2 β w' hs
    exact (hs.keepB (List.nil_sublist _)).fin [0] ⟨f2,_,rfl,.inr ⟨_,hJ2,rfl⟩⟩ rfl rfl rfl ⟨hfo2,trivial⟩
 ·have hge0: ¬(pre.length:Int)<L.length:=hge
  have hpl:pre=L:=by rw [hpre,List.take_of_length_le (by omega)]
  subst hpl
  cases pre with
  | nil=>
   intro β w' hs
   exact (hs.keepB (List.nil_sublist _)).fin [1,3] ⟨f,_,rfl,.inl ⟨[],hJ,rfl,rfl⟩⟩ rfl rfl rfl ⟨hfo,rfl,trivial⟩
  | cons y ys=>
   intro β w' hs
   exact (hs.keepB (List.nil_sublist _)).fin [1] ⟨f,_,rfl,.inl ⟨_,hJ,rfl,rfl⟩⟩ rfl rfl rfl ⟨hfo,trivial⟩
def rdCells (A:Option Addr) (c:Nat) (r:Rdr):List Value:=[.slice A r.p.length c,.bool r.bad]
theorem z_qR: ∀n:Nat,(List.replicate n (0:UInt8)).map byte=repl [.int .u8 0] n
 | 0=>rfl
 | k+1=>by rw [List.replicate_succ,List.map_cons,z_qR k];rfl
theorem z_zm {x y:Nat} (hx:x<72057594037927936) (hy:y<256):bits .or .u64 ((x*256:Nat):Int) (y:Int)=((x*256+y:Nat):Int):=by
 show IntKind.u64.wrap (((BitVec.ofInt 64 ((x*256:Nat):Int)) ||| (BitVec.ofInt 64 (y:Int))).toNat:Int)=_
 have h1:(BitVec.ofInt 64 ((x*256:Nat):Int)).toNat=x<<<8:=by
  rw [BitVec.toNat_ofInt,Nat.shiftLeft_eq]
  omega
 have h2:(BitVec.ofInt 64 (y:Int)).toNat=y:=by
  rw [BitVec.toNat_ofInt]
  omega
 rw [BitVec.toNat_or,h1,h2,<-Nat.shiftLeft_add_eq_or_of_lt (by omega) x,Nat.shiftLeft_eq,z_c7]
 omega
theorem z_yW (x:Nat):IntKind.u64.wrap ((x:Int)*2^(min (8:Int).toNat IntKind.u64.bits))=((x%72057594037927936*256:Nat):Int):=by
 rw [show min (8:Int).toNat IntKind.u64.bits=8 from rfl,z_c7]
 omega
theorem z_tt (w:World) (b:Nat) (A:Option Addr) (c:Nat) (r:Rdr) (n:Nat) (hn:n<=255) (hc:r.p.length<=c) (hm:Mem w [bkF b z_at (rdCells A c r),bsF A r.p]):
  Con Tryz.prog z_fy #[.pointer (some ⟨b,0,none⟩),.int .i64 (n:Int)] w [bkF b z_at (rdCells A c r)] fun v Fs=> ∃A2 A3 c3 F,v= .slice A2 n n/\F.own=true/\(0<n-> ∃ad,A2=some ad)/\(r.take n).2.p.length<=c3/\Lies A A3 r.p (r.take n).2.p/\(∀w,F.p w->Bs w A r.p->Bs w A2 (r.take n).1)/\Fs=[F,bkF b z_at (rdCells A3 c3 (r.take n).2)]:=by
 have g:=z_h1 w (Un [bkF b z_at (rdCells A c r)])
 refine z_dN (cx:=z_cw w (Un [bkF b z_at (rdCells A c r)])) g z_kM [.c (.v (.pointer (some ⟨b,0,none⟩))),.c (.v (.int .i64 (n:Int)))] [bsF A r.p] hm ?_
 have ld: ∀ {β:Va} {m:Nat} {H:List Bk} {F:List Fact} {w':World} {j:Nat},Sat (z_cw w (Un [bkF b z_at (rdCells A c r)])) β m H F w'->nth F j=some (bkF b z_at (rdCells A c r))->w'.cell? ((⟨b,0,none⟩:Addr).add 0)=some (.slice A r.p.length c):=fun hs hj=>z_ai (hs.get _ hj) (o:=0) rfl
 refine ⟨.slice A r.p.length c,fun β w' hs=>ld hs (j:=0) rfl,?_⟩
 refine BIf.dec (fun hlt=>?_) (fun hge=>?_)
 ·have hlt0:(r.p.length:Int)<(n:Int):=hlt
  refine ⟨_,fun β w' hs=>hs.bkSet 0 (o:=1) (us:=[.bool true]) rfl (by show 2<=2;decide) (z_a9 rfl),?_⟩
  refine ⟨_,fun β w' hs=>hs.bkSet 0 (o:=0) (us:=[.slice none 0 0]) rfl (by show 1<=2;decide) (z_a9 rfl),?_⟩
  refine ⟨n,n,rfl,rfl,Nat.le_refl _,by show 1*n<=_;omega,by rw [maxLen_eq];omega,?_⟩
  intro b1
  have h1:r.take n=(List.replicate n 0,⟨[],true⟩):=by unfold Rdr.take;rw [if_pos (by omega)]
  rw [h1]
  intro β w' hs
  refine hs.fin [0,1] ⟨some ⟨b1,0,none⟩,none,0,rowF z_ab 1 (.slice (some ⟨b1,0,none⟩) n n) n (repl [.int .u8 0] n),rfl,rfl,fun _=>⟨_,rfl⟩,Nat.le_refl _,Lies.nil A none r.p,fun w h _=>?_,rfl⟩
  have h2:=z_aj h
  have e:(List.replicate n (0:UInt8)).map byte=repl [.int .u8 0] n:=z_qR n
  show Rd 1 _ (List.replicate n (0:UInt8)).length _ w
  rw [e,List.length_replicate]
  exact h2
 ·have hge0: ¬(r.p.length:Int)<(n:Int):=hge
  have h1:r.take n=(r.p.take n,⟨r.p.drop n,r.bad⟩):=by unfold Rdr.take;rw [if_neg (by omega)]
  refine ⟨.slice A r.p.length c,fun β w' hs=>ld hs (j:=0) rfl,?_⟩
  refine ⟨n,n,0,n,n,_,rfl,rfl,rfl,by omega,by omega,by omega,rfl,rfl,cutZ,?_⟩
  refine ⟨_,fun β w' hs=>z_ai (hs.get 0 rfl) (o:=0) rfl,?_⟩
  refine ⟨c,r.p.length,n,r.p.length - n,c - n,_,rfl,rfl,rfl,by omega,by omega,by omega,rfl,rfl,rfl,?_⟩
  refine ⟨_,fun β w' hs=>hs.bkSet 0 (o:=0) (us:=[.slice (cutA A c n 1) (r.p.length - n) (c - n)]) rfl (by show 1<=2;decide) (z_a9 rfl),?_⟩
  rw [h1]
  have hdl:(r.p.drop n).length=r.p.length - n:=List.length_drop
  intro β w' hs
  refine (hs.noMem noO trivial (fun _ h=>h)).fin [0,1] ⟨A,cutA A c n 1,c - n,noO,rfl,rfl,fun h=>Bs.addr (hm.fact (bsF A r.p) (by simp)) (by omega),by rw [hdl];omega,Lies.drop hc (by omega),fun w _ h=>(Lies.take A r.p n).rd w h,?_⟩
  show _=[noO,bkF b z_at [.slice (cutA A c n 1) (r.p.drop n).length (c - n),.bool r.bad]]
  rw [hdl]
  rfl
theorem z_v0 (l:List UInt8) (j:Nat) (x:UInt8) (h:l[j]?=some x):numB (l.take (j+1))=(numB (l.take j)*256+x.toNat)%18446744073709551616:=by
 rw [List.take_add_one,h]
 exact z_jJ _ _
theorem z_h8 (w:World) (b:Nat) (A:Option Addr) (c:Nat) (r:Rdr) (n:Nat) (hn:n<=255) (hc:r.p.length<=c) (hm:Mem w [bkF b z_at (rdCells A c r),bsF A r.p]):
  Con Tryz.prog z_f2 #[.pointer (some ⟨b,0,none⟩),.int .i64 (n:Int)] w [bkF b z_at (rdCells A c r)] fun v Fs=> ∃A3 c3,v= .int .u64 ((r.num n).1:Int)/\(r.num n).2.p.length<=c3/\Lies A A3 r.p (r.num n).2.p/\Fs=[bkF b z_at (rdCells A3 c3 (r.num n).2)]:=by
 have g:=z_iT w (Un [bkF b z_at (rdCells A c r)])
 refine z_dN (cx:=z_fr w (Un [bkF b z_at (rdCells A c r)])) g z_ls [.c (.v (.pointer (some ⟨b,0,none⟩))),.c (.v (.int .i64 (n:Int)))] [bsF A r.p] hm ?_
 refine z_aa [0] (fun β w' hs=>z_tt w' b A c r n hn hc (hs.mem.take (js:=[0,1]) rfl)) ?_
 rintro v Fs ⟨A2,A3,c3,F,rfl,hFo,hA2,hc3,hl,hrd,rfl⟩
 have hlen:=z_fB r n
 generalize hq:r.take n=q at *
 obtain ⟨l,r2⟩:=q
 simp only at hc3 hl hrd hlen
 refine z_ag (ι:=Nat) 0 (fun j=>[(10,.c (.v (.slice A2 n n))),(11,.c (.v (.int .i64 (n:Int)))),(12,.c (.v (.int .i64 (j:Int)))),(5,.c (.v (.int .u64 (numB (l.take j):Int))))]) (fun _=>[]) (fun _=>[F,bkF b z_at (rdCells A3 c3 r2),bsF A r.p]) (fun j=>j<=n) (fun j=>n - j) (0:Nat) (Nat.zero_le _) (Ent.mk' ⟨rfl,rfl,rfl,rfl,trivial⟩ rfl (fun β w' hs=>hs)) g ?_
 intro j hj
 refine BIf.dec (fun hlt=>?_) (fun hge=>?_)
 ·have hlt0:(j:Int)<(n:Int):=hlt
  obtain ⟨x,hx,_⟩:=at_lt (l:=l) (k:=j) (by omega)
  obtain ⟨ad,hAd⟩:=hA2 (by omega)
  refine ⟨ad,j,hAd,rfl,by omega,?_⟩
  refine ⟨byte x,fun β w' hs=>Rd.cell1 (show Rd 1 (some ad) l.length (l.map byte) w' from hAd▸hrd w' (hs.get 0 rfl) (hs.get 2 rfl)) (by rw [List.getElem?_map,hx];rfl),?_⟩
  refine ⟨by decide,_,z_yW _,?_⟩
  refine ⟨(x.toNat:Int),by rw [z_c7];have:=x.toNat_lt;omega,?_⟩
  refine ⟨_,z_zm (Nat.mod_lt _ (by decide)) x.toNat_lt,?_⟩
  have hnx:numB (l.take j)%72057594037927936*256+x.toNat=numB (l.take (j+1)):=by rw [z_v0 l j x hx];have:=x.toNat_lt;omega
  rw [hnx]
  refine ⟨((j+1:Nat):Int),by rw [wrap_i64 (by omega) (by omega)];rfl,?_⟩
  exact ⟨j+1,by show j+1<=n;omega,by show n - (j+1)<n - j;omega,Ent.mk' ⟨rfl,rfl,rfl,rfl,trivial⟩ rfl (fun β w' hs=>hs)⟩
 ·have hge0: ¬(j:Int)<(n:Int):=hge
  have e:l.take j=l:=List.take_of_length_le (by omega)
  rw [e]
  intro β w' hs
  exact hs.fin [1] ⟨A3,c3,by unfold Rdr.num;rw [hq];rfl,by unfold Rdr.num;rw [hq];exact hc3,by unfold Rdr.num;rw [hq];exact hl,by unfold Rdr.num;rw [hq];rfl⟩
theorem z_qi (w:World) (b:Nat) (A:Option Addr) (c:Nat) (r:Rdr) (hc:r.p.length<=c) (hm:Mem w [bkF b z_at (rdCells A c r),bsF A r.p]):
  Con Tryz.prog z_fk #[.pointer (some ⟨b,0,none⟩)] w [bkF b z_at (rdCells A c r)] fun v Fs=> ∃A3 c3,v= .string (mkS r.txt.1)/\r.txt.2.p.length<=c3/\Lies A A3 r.p r.txt.2.p/\Fs=[bkF b z_at (rdCells A3 c3 r.txt.2)]:=by
 have g:=z_h6 w (Un [bkF b z_at (rdCells A c r)])
 refine z_dN (cx:=z_eA w (Un [bkF b z_at (rdCells A c r)])) g z_kA [.c (.v (.pointer (some ⟨b,0,none⟩)))] [bsF A r.p] hm ?_
 refine z_aa [0] (fun β w' hs=>z_h8 w' b A c r 1 (by decide) hc (hs.mem.take (js:=[0,1]) rfl)) ?_
 rintro v Fs ⟨A3,c3,rfl,hc3,hl,rfl⟩
 have hlt:(r.num 1).1<256:=z_lm 1 _ (z_fB r 1) (by decide)
 unfold Rdr.txt
 generalize r.num 1=q at *
 obtain ⟨n,r2⟩:=q
 simp only at hc3 hl hlt ⊢
 refine ⟨(n:Int),wrap_i64 (by omega) (by omega),?_⟩
 refine z_aa [0] (fun β w' hs=>z_tt w' b A3 c3 r2 n (by omega) hc3 ((hs.sub 1 rfl rfl (bsF A3 r2.p) rfl (hl.rd w' (hs.get 1 rfl)) (fun k hk=>hl.d k hk)).mem.take (js:=[1,0]) rfl)) ?_
 rintro v Fs ⟨A2,A4,c4,F,rfl,hFo,hA2,hc4,hl2,hrd,rfl⟩
 have hlen:=z_fB r2 n
 generalize r2.take n=q at *
 obtain ⟨l,r3⟩:=q
 simp only at hc4 hl2 hrd hlen ⊢
 have hrd2: ∀w':World,F.p w'->Bs w' A r.p->Rd 1 A2 n (l.map byte) w':=fun w' h1 h2=>hlen▸hrd w' h1 (hl.rd w' h2)
 refine ⟨l,fun β w' hs=>hrd2 w' (hs.get 0 rfl) (hs.get 2 rfl),?_⟩
 intro β w' hs
 exact hs.fin [1] ⟨A4,c4,rfl,hc4,hl.trans hl2,rfl⟩
def numsT (t:Tk):List Nat:=[t.serial,t.fro,t.til,t.gen]
def txtsT (t:Tk):List (List UInt8):=[t.ten,t.usr,t.rol]
def preT (t:Tk) (j:Nat):List UInt8:=1::be 4 t.epoch++((numsT t).take j).flatMap (be 8)
def pre2T (t:Tk) (j:Nat):List UInt8:=preT t 4++((txtsT t).take j).flatMap txtL
theorem z_lI (t:Tk) (j:Nat):(preT t j).length<=37:=by
 unfold preT
 rw [List.length_append,List.length_cons,z_ay,List.length_flatMap]
 have h: ∀(l:List Nat),(l.map fun a=>(be 8 a).length).sum=8*l.length:=by
  intro l
  induction l with
  | nil=>rfl
  | cons a r ih=>rw [List.map_cons,List.sum_cons,ih,z_ay,List.length_cons];omega
 rw [h,List.length_take]
 have:(numsT t).length=4:=rfl
 omega
open Classical in
theorem z_wQ (w:World) (t:Tk) (hn:NamT w) (ht:t.Ok):Con Tryz.prog z_ff #[.agg t.cells.toArray] w [] fun v Fs=>(t.Right/\ ∃A c,v= .tuple #[.slice A (bodyL t).length c,.int .i64 0]/\(bodyL t).length<=c/\Fs=[browF z_ab A (bodyL t) c])\/(¬t.Right/\v= .tuple #[.slice none 0 0,.int .i64 4]/\Fs=[]):=by
 have g:=z_hW w (Un [])
 have hml:=maxLen_eq
 refine z_ac (cx:=z_eC w (Un [])) g z_kL rfl rfl (β:=Va.z) [.agg (t.cells.map SL.v)] 0 [] [oldF w] rfl rfl (z_aS rfl) ?_
 refine z_ah (v:= .bool (decide t.Right)) (fun β w' hs=>z_rR w' t (hn.old (hs.get 0 rfl)) ht) ?_
 refine BIf.not (BIf.dec (fun hr=>?_) (fun hr=>?_))
 rotate_left
 ·intro β w' hs
  exact (hs.keepB (List.nil_sublist _)).fin [] (.inr ⟨hr,rfl,rfl⟩)
 have l1:=z_bg hr.ten
 have l2:=z_eg hr.usr
 have l3:=z_bg hr.rol
 intro b1
 refine z_aa [] (fun β w' hs=>z_xR w' t.epoch 4 ht.e (by decide)) ?_
 rintro v Fs ⟨A1,c1,rfl,hc1,rfl⟩
 have hb4:=z_ay 4 t.epoch
 have e0:preT t 0=[1]++be 4 t.epoch:=by unfold preT;simp
 refine ⟨1,1,(preT t 0).length,[Value.int .u8 1],(be 4 t.epoch).map byte,(preT t 0).map byte,rfl,fun β w' hs=>z_aj (hs.get 0 rfl),z_as _,by rw [e0,List.length_append];rfl,by rw [e0,List.map_append];rfl,by have:=z_lI t 0;omega,by have:=z_lI t 0;show (preT t 0).length*1<=_;omega,?_⟩
 intro A2 c2 _ _ _
 intro b2
 refine z_ag (ι:=Nat×Option Addr×Nat) 1 (fun j=>[(1,.c (.p 0 0)),(4,.c (.v (.slice j.2.1 (preT t j.1).length j.2.2))),(25,.c (.v (.slice (some ⟨b2,0,none⟩) 4 4))),(26,.c (.v (.int .i64 4))),(27,.c (.v (.int .i64 (j.1:Int))))]) (fun _=>[⟨0,z_an,t.cells.map SL.v⟩]) (fun j=>[rowF z_aA 1 (.slice (some ⟨b2,0,none⟩) 4 4) 4 ((numsT t).map fun n:Nat=>Value.int .u64 (n:Int)),browF z_ab j.2.1 (preT t j.1) j.2.2,oldF w])
  (fun j=>j.1<=4) (fun j=>4 - j.1) (0,A2,c2) (Nat.zero_le _) (Ent.mk' ⟨rfl,rfl,rfl,rfl,rfl,trivial⟩ rfl (fun β w' hs=>hs.perm [0,2,3])) g ?_
 rintro ⟨j,A,c⟩ hj
 simp only at hj
 have hpl:=z_lI t j
 refine BIf.dec (fun hlt=>?_) (fun hge=>?_)
 ·have hlt0:(j:Int)<4:=hlt
  obtain ⟨n,hx,hxm⟩:=at_lt (l:=numsT t) (k:=j) (by show j<4;omega)
  have hn8:n<18446744073709551616:=by
   simp only [numsT,List.mem_cons,List.not_mem_nil,or_false] at hxm
   rcases hxm with rfl | rfl | rfl | rfl
   ·exact ht.s
   ·exact ht.f
   ·exact ht.l
   ·exact ht.g
  refine ⟨⟨b2,0,none⟩,j,rfl,rfl,by omega,.int .u64 (n:Int),fun β w' hs=>Rd.cell1 (show Rd 1 (some ⟨b2,0,none⟩) 4 ((numsT t).map fun n:Nat=>Value.int .u64 (n:Int)) w' from z_aj (hs.get 0 rfl)) (by rw [List.getElem?_map,hx];rfl),?_⟩
  refine z_aa [] (fun β w' hs=>z_xR w' n 8 hn8 (by decide)) ?_
  rintro v Fs ⟨A3,c3,rfl,hc3,rfl⟩
  have hb8:=z_ay 8 n
  have hs1:preT t (j+1)=preT t j++be 8 n:=by
   unfold preT
   rw [List.take_add_one,hx,List.flatMap_append,<-List.append_assoc]
   simp
  have hpl1:=z_lI t (j+1)
  refine ⟨2,(preT t j).length,(preT t (j+1)).length,(preT t j).map byte,(be 8 n).map byte,(preT t (j+1)).map byte,rfl,fun β w' hs=>z_aj (hs.get 0 rfl),z_as _,by rw [hs1,List.length_append],by rw [hs1,List.map_append],by omega,by show (preT t (j+1)).length*1<=_;omega,?_⟩
  intro A4 c4 _ _ _
  refine ⟨((j+1:Nat):Int),by rw [wrap_i64 (by omega) (by omega)];rfl,?_⟩
  exact ⟨(j+1,A4,c4),by show j+1<=4;omega,by show 4 - (j+1)<4 - j;omega,Ent.mk' ⟨rfl,rfl,rfl,rfl,rfl,trivial⟩ rfl (fun β w' hs=>hs.perm [1,2,3])⟩
 ·have hge0: ¬(j:Int)<4:=hge
  obtain rfl:j=4:=by omega
  intro b3
  have p0:pre2T t 0=preT t 4:=by unfold pre2T;simp
  have hp2: ∀j,(pre2T t j).length<=200:=fun j=>by
   unfold pre2T
   rw [List.length_append]
   have h:(((txtsT t).take j).flatMap txtL).length<=((txtsT t).flatMap txtL).length:=by
    have e:=congrArg (fun l=>(l.flatMap txtL).length) (List.take_append_drop j (txtsT t))
    simp only [List.flatMap_append,List.length_append] at e
    omega
   have h2:((txtsT t).flatMap txtL).length=t.ten.length+1+(t.usr.length+1+(t.rol.length+1)):=by simp [txtsT,txtL];omega
   omega
  refine z_ag (ι:=Nat×Option Addr×Nat) 1 (fun j=>[(4,.c (.v (.slice j.2.1 (pre2T t j.1).length j.2.2))),(45,.c (.v (.slice (some ⟨b3,0,none⟩) 3 3))),(46,.c (.v (.int .i64 3))),(47,.c (.v (.int .i64 (j.1:Int))))]) (fun _=>[]) (fun j=>[rowF z_ak 1 (.slice (some ⟨b3,0,none⟩) 3 3) 3 ((txtsT t).map fun l=>Value.string (mkS l)),browF z_ab j.2.1 (pre2T t j.1) j.2.2,oldF w])
   (fun j=>j.1<=3) (fun j=>3 - j.1) (0,A,c) (Nat.zero_le _) (Ent.mk' ⟨by rw [p0];rfl,rfl,rfl,rfl,trivial⟩ rfl (fun β w' hs=>by rw [p0];exact (hs.keepB (List.nil_sublist _)).perm [0,2,3])) g ?_
  rintro ⟨i,A5,c5⟩ hi
  simp only at hi
  have hpi:=hp2 i
  refine BIf.dec (fun hlt2=>?_) (fun hge2=>?_)
  ·have hlt20:(i:Int)<3:=hlt2
   obtain ⟨l,hx,hxm⟩:=at_lt (l:=txtsT t) (k:=i) (by show i<3;omega)
   refine ⟨⟨b3,0,none⟩,i,rfl,rfl,by omega,.string (mkS l),fun β w' hs=>Rd.cell1 (show Rd 1 (some ⟨b3,0,none⟩) 3 ((txtsT t).map fun l=>Value.string (mkS l)) w' from z_aj (hs.get 0 rfl)) (by rw [List.getElem?_map,hx];rfl),?_⟩
   have hl32:l.length<=32:=by
    simp only [txtsT,List.mem_cons,List.not_mem_nil,or_false] at hxm
    rcases hxm with rfl | rfl | rfl
    ·exact l1
    ·exact l2
    ·exact l3
   have hs2:pre2T t (i+1)=(pre2T t i++[UInt8.ofNat l.length])++l:=by
    unfold pre2T
    rw [List.take_add_one,hx,List.flatMap_append,<-List.append_assoc]
    simp [txtL]
   have hbl:byte (UInt8.ofNat l.length)= .int .u8 (l.length:Int):=z_nd _ (by omega)
   refine ⟨(l.length:Int),by show IntKind.u8.wrap (l.length:Int)=_;rw [wrap_u8];omega,?_⟩
   intro b4
   refine ⟨2,(pre2T t i).length,(pre2T t i++[UInt8.ofNat l.length]).length,(pre2T t i).map byte,[Value.int .u8 (l.length:Int)],(pre2T t i++[UInt8.ofNat l.length]).map byte,rfl,fun β w' hs=>z_aj (hs.get 0 rfl),fun u hu=>by obtain rfl:=List.mem_singleton.1 hu;rfl,by rw [List.length_append];rfl,by rw [List.map_append,<-hbl];rfl,by rw [List.length_append,hml];show _+1<=_;omega,by rw [List.length_append];show (_+1)*1<=_;omega,?_⟩
   intro A6 c6 _ _ _
   have hpi1:=hp2 (i+1)
   refine ⟨2,(pre2T t i++[UInt8.ofNat l.length]).length,l.length,(pre2T t (i+1)).length,(pre2T t i++[UInt8.ofNat l.length]).map byte,l.map byte,(pre2T t (i+1)).map byte,rfl,⟨rfl,rfl,by rw [z_eq]⟩,by rw [hs2];exact List.length_append.symm,by rw [hs2];exact List.map_append.symm,by omega,by show (pre2T t (i+1)).length*1<=_;omega,?_⟩
   intro A7 c7 _ _ _
   refine ⟨((i+1:Nat):Int),by rw [wrap_i64 (by omega) (by omega)];rfl,?_⟩
   exact ⟨(i+1,A7,c7),by show i+1<=3;omega,by show 3 - (i+1)<3 - i;omega,Ent.mk' ⟨rfl,rfl,rfl,rfl,trivial⟩ rfl (fun β w' hs=>hs.perm [1,2,3])⟩
  ·have hge20: ¬(i:Int)<3:=hge2
   obtain rfl:i=3:=by omega
   have e3:pre2T t 3=bodyL t:=by
    unfold pre2T preT bodyL
    simp [numsT,txtsT]
   rw [e3] at *
   intro β w' hs
   exact hs.fin [1] (.inl ⟨hr,A5,c5,rfl,z_ic (hs.get 1 rfl),rfl⟩)
def dotA:List UInt8->List UInt8
 | []=>[]
 | c::r=>if c=46 then [] else c::dotA r
def dotB:List UInt8->List UInt8
 | []=>[]
 | c::r=>if c=46 then r else dotB r
theorem z_v2: ∀ {a b:List UInt8},(46:UInt8)∉a->dotA (a++46::b)=a/\dotB (a++46::b)=b
 | [],b,_=>⟨if_pos rfl,if_pos rfl⟩
 | c::r,b,h=>by
  have hc: ¬c=46:=fun q=>h (by rw [q];exact List.mem_cons_self)
  obtain ⟨e1,e2⟩:=z_v2 (a:=r) (b:=b) (fun q=>h (List.mem_cons_of_mem _ q))
  rw [List.cons_append]
  unfold dotA dotB
  rw [if_neg hc,if_neg hc,e1,e2]
  exact ⟨rfl,rfl⟩
theorem z_pe: ∀ {s:List UInt8},(46:UInt8)∈s->s=dotA s++46::dotB s/\(46:UInt8)∉dotA s
 | [],h=>by cases h
 | c::r,h=>by
  unfold dotA dotB
  by_cases hc:c=46
  ·rw [if_pos hc,if_pos hc,hc]
   exact ⟨rfl,fun q=>by cases q⟩
  ·rw [if_neg hc,if_neg hc]
   have hr:(46:UInt8)∈r:=(List.mem_cons.1 h).resolve_left (fun q=>hc q.symm)
   obtain ⟨e1,e2⟩:=z_pe hr
   refine ⟨by rw [List.cons_append,<-e1],fun q=>?_⟩
   rcases List.mem_cons.1 q with q | q
   ·exact hc q.symm
   ·exact e2 q
open Classical in
noncomputable def splitT (s:List UInt8):Option (List UInt8×List UInt8)×Int:=
 if 4096<s.length then (none,3) else if (46:UInt8)∈s then match decU (dotA s),decU (dotB s) with
  | some b,some m=>if m.length=32 then (some (b,m),0) else (none,4)
  | _,_=>(none,4)
 else (none,4)
theorem z_sP (p:List UInt8):decU (encS true p)=some p:=by
 have hl:=z_fE true p
 show (if (b64L true p).length%4=1 then none else decS true (b64L true p))=some p
 rw [if_neg (by rw [hl];omega)]
 exact z_xq true p
theorem z_wH (p:List UInt8):(46:UInt8)∉encS true p:=fun h=>absurd (z_wh true p 46 h) (by decide)
theorem z_uq {b m:List UInt8} (hm:m.length=32) (hl:(encS true b++46::encS true m).length<=4096):splitT (encS true b++46::encS true m)=(some (b,m),0):=by
 obtain ⟨e1,e2⟩:=z_v2 (b:=encS true m) (z_wH b)
 unfold splitT
 rw [if_neg (by omega),if_pos (List.mem_append_right _ List.mem_cons_self),e1,e2,z_sP,z_sP]
 simp only
 rw [if_pos hm]
def libCut (s:List UInt8):List UInt8×List UInt8×Bool:=_root_.Go.Lib.cut s [46]
theorem z_x2 (w:World) (s:List UInt8) (hs:s.length<=1000000) (hm:mlF.p w):Pu Tryz.prog z_qv #[.string (mkS s),.string (mkS [46])] w (.tuple #[.string (mkS (libCut s).1),.string (mkS (libCut s).2.1),.bool (libCut s).2.2]):=by
 obtain ⟨m,hm⟩:=hm
 have hsz:(mkS s).size<4294967281:=by show s.length<_;omega
 refine pu_of (Calls.mono (Tryz.strings_Cut (mkS s) (mkS [46]) m w hsz hm) ?_)
 rintro e w' ⟨rfl,q,rfl⟩
 refine ⟨_,rfl,?_,⟨rfl,rfl,rfl,Nat.le_refl _,fun _ _ _=>rfl⟩⟩
 rw [z_eq,z_eq]
 rfl
theorem z_vz: ∀s:List UInt8,_root_.Go.Lib.index s [46]=if (46:UInt8)∈s then ((dotA s).length:Int) else -1
 | []=>by rw [if_neg (fun h=>by cases h)];rfl
 | c::r=>by
  have ih:=z_vz r
  unfold _root_.Go.Lib.index dotA
  by_cases hc:c=46
  ·subst hc
   rw [if_pos (by simp),if_pos List.mem_cons_self,if_pos rfl]
   rfl
  ·rw [if_neg (by simpa using fun h=>hc h.symm),if_neg hc,ih]
   by_cases hr:(46:UInt8)∈r
   ·rw [if_pos hr,if_pos (List.mem_cons_of_mem _ hr),if_neg (by simp)]
    simp
   ·rw [if_neg hr,if_neg (fun q=>(List.mem_cons.1 q).elim (fun q=>hc q.symm) hr)]
    rfl
theorem z_vv (s:List UInt8):libCut s=if (46:UInt8)∈s then (dotA s,dotB s,true) else (s,[],false):=by
 unfold libCut _root_.Go.Lib.cut
 rw [z_vz]
 by_cases h:(46:UInt8)∈s
 ·obtain ⟨e,_⟩:=z_pe h
  rw [if_pos h,if_pos h,if_pos (Int.natCast_nonneg _),Int.toNat_natCast]
  generalize dotA s=a at e ⊢
  generalize dotB s=b at e ⊢
  subst e
  rw [List.take_left,<-List.drop_drop,List.drop_left]
  rfl
 ·rw [if_neg h,if_neg h,if_neg (by decide)]
theorem z_m3 (r:Rdr) (n:Nat) (h:n<=8):(r.num n).1<18446744073709551616:=by
 have h1:=z_lm n _ (z_fB r n) h
 exact Nat.lt_of_lt_of_le h1 (show 256^n<=256^8 from Nat.pow_le_pow_right (by decide) h)
theorem z_sA (r:Rdr):r.txt.1.length<=100000:=by
 have h1:(r.num 1).1<256:=z_lm 1 _ (z_fB r 1) (by decide)
 have h2:r.txt.1.length=(r.num 1).1:=z_fB _ _
 omega
theorem z_zp {w w':World} (h:mlF.p w) (ho:(oldF w).p w'):mlF.p w':=by
 refine mlF.st w w' (fun k hk=>ho k ?_) h
 obtain ⟨m,hm⟩:=h
 obtain rfl:k=0:=hk
 unfold World.cell? at hm
 rcases Nat.lt_or_ge 0 w.heap.size with q | q
 ·exact q
 ·simp [Array.getElem?_eq_none q] at hm
def readV (p:List UInt8) (v:Value):Prop:=(∃t,readT p=some t/\t.Ok/\v= .tuple #[.agg t.cells.toArray,.int .i64 0])\/(readT p=none/\v= .tuple #[.agg tk0.cells.toArray,.int .i64 4])
open Classical in
theorem z_wt (w:World) (A:Option Addr) (p:List UInt8) (c:Nat) (hc:p.length<=c) (hn:NamT w) (hA:Bs w A p):Con Tryz.prog z_mb #[.slice A p.length c] w [] fun v Fs=>readV p v/\Fs=[]:=by
 have g:=z_nY w (Un [])
 refine z_ds (cx:=z_k3 w (Un [])) g z_ql rfl rfl (β:=Va.z) [.c (.v (.slice A p.length c))] 0 [] [oldF w] rfl rfl (z_aS rfl) ?_
 refine z_ae g ?_
 refine z_ae g ?_
 refine z_fI 1 (fun _=>[.slice A p.length c,.bool false]) rfl rfl (fun _=>rfl) (fun rb=>?_)
 refine z_aQ g ?_
 have no: ∀ {r:Rdr} {A1:Option Addr} {w':World},Lies A A1 p r.p->(oldF w).p w'->Bs w' A1 r.p:=fun hl h=>hl.rd _ (hA.old h)
 have dom: ∀ {r:Rdr} {A1:Option Addr},Lies A A1 p r.p-> ∀k,(bsF A1 r.p).D k->(oldF w).D k:=fun hl k hk=>rd_lt hA k (hl.d k hk)
 obtain ⟨r0,hr0⟩: ∃r0:Rdr,(⟨p,false⟩:Rdr)=r0:=⟨_,rfl⟩
 have hrp:r0.p=p:=by rw [<-hr0]
 have hrc:([.slice A p.length c,.bool false]:List Value)=rdCells A c r0:=by rw [<-hr0];rfl
 rw [hrc]
 have hl0:Lies A A p r0.p:=hrp▸Lies.refl A p
 have hc0:r0.p.length<=c:=hrp▸hc
 refine z_aa [0] (fun β w' hs=>z_h8 w' rb A c r0 1 (by decide) hc0 ((hs.sub 1 rfl rfl (bsF A r0.p) rfl (no hl0 (hs.get 1 rfl)) (dom hl0)).mem.take (js:=[1,0]) rfl)) ?_
 rintro v Fs ⟨A1,c1,rfl,hc1,hm1,rfl⟩
 have hl1:=hl0.trans hm1
 have b0:=z_m3 r0 1 (by decide)
 clear hm1
 generalize hq0:r0.num 1=q0 at *
 obtain ⟨n0,r1⟩:=q0
 simp only at hc1 hl1 b0
 refine z_aa [0] (fun β w' hs=>z_h8 w' rb A1 c1 r1 4 (by decide) hc1 ((hs.sub 1 rfl rfl (bsF A1 r1.p) rfl (no hl1 (hs.get 1 rfl)) (dom hl1)).mem.take (js:=[1,0]) rfl)) ?_
 rintro v Fs ⟨A2,c2,rfl,hc2,hm2,rfl⟩
 have hl2:=hl1.trans hm2
 have b1:=z_m3 r1 4 (by decide)
 clear hm2
 generalize hq1:r1.num 4=q1 at *
 obtain ⟨n1,r2⟩:=q1
 simp only at hc2 hl2 b1
 refine z_aa [0] (fun β w' hs=>z_h8 w' rb A2 c2 r2 8 (by decide) hc2 ((hs.sub 1 rfl rfl (bsF A2 r2.p) rfl (no hl2 (hs.get 1 rfl)) (dom hl2)).mem.take (js:=[1,0]) rfl)) ?_
 rintro v Fs ⟨A3,c3,rfl,hc3,hm3,rfl⟩
 have hl3:=hl2.trans hm3
 have b2:=z_m3 r2 8 (by decide)
 clear hm3
 generalize hq2:r2.num 8=q2 at *
 obtain ⟨n2,r3⟩:=q2
 simp only at hc3 hl3 b2
 refine z_aa [0] (fun β w' hs=>z_h8 w' rb A3 c3 r3 8 (by decide) hc3 ((hs.sub 1 rfl rfl (bsF A3 r3.p) rfl (no hl3 (hs.get 1 rfl)) (dom hl3)).mem.take (js:=[1,0]) rfl)) ?_
 rintro v Fs ⟨A4,c4,rfl,hc4,hm4,rfl⟩
 have hl4:=hl3.trans hm4
 have b3:=z_m3 r3 8 (by decide)
 clear hm4
 generalize hq3:r3.num 8=q3 at *
 obtain ⟨n3,r4⟩:=q3
 simp only at hc4 hl4 b3
 refine z_aa [0] (fun β w' hs=>z_h8 w' rb A4 c4 r4 8 (by decide) hc4 ((hs.sub 1 rfl rfl (bsF A4 r4.p) rfl (no hl4 (hs.get 1 rfl)) (dom hl4)).mem.take (js:=[1,0]) rfl)) ?_
 rintro v Fs ⟨A5,c5,rfl,hc5,hm5,rfl⟩
 have hl5:=hl4.trans hm5
 have b4:=z_m3 r4 8 (by decide)
 clear hm5
 generalize hq4:r4.num 8=q4 at *
 obtain ⟨n4,r5⟩:=q4
 simp only at hc5 hl5 b4
 refine z_aa [0] (fun β w' hs=>z_h8 w' rb A5 c5 r5 8 (by decide) hc5 ((hs.sub 1 rfl rfl (bsF A5 r5.p) rfl (no hl5 (hs.get 1 rfl)) (dom hl5)).mem.take (js:=[1,0]) rfl)) ?_
 rintro v Fs ⟨A6,c6,rfl,hc6,hm6,rfl⟩
 have hl6:=hl5.trans hm6
 have b5:=z_m3 r5 8 (by decide)
 clear hm6
 generalize hq5:r5.num 8=q5 at *
 obtain ⟨n5,r6⟩:=q5
 simp only at hc6 hl6 b5
 refine z_aa [0] (fun β w' hs=>z_qi w' rb A6 c6 r6 hc6 ((hs.sub 1 rfl rfl (bsF A6 r6.p) rfl (no hl6 (hs.get 1 rfl)) (dom hl6)).mem.take (js:=[1,0]) rfl)) ?_
 rintro v Fs ⟨A7,c7,rfl,hc7,hm7,rfl⟩
 have hl7:=hl6.trans hm7
 have b6:=z_sA r6
 clear hm7
 generalize hq6:r6.txt=q6 at *
 obtain ⟨s6,r7⟩:=q6
 simp only at hc7 hl7 b6
 refine z_aa [0] (fun β w' hs=>z_qi w' rb A7 c7 r7 hc7 ((hs.sub 1 rfl rfl (bsF A7 r7.p) rfl (no hl7 (hs.get 1 rfl)) (dom hl7)).mem.take (js:=[1,0]) rfl)) ?_
 rintro v Fs ⟨A8,c8,rfl,hc8,hm8,rfl⟩
 have hl8:=hl7.trans hm8
 have b7:=z_sA r7
 clear hm8
 generalize hq7:r7.txt=q7 at *
 obtain ⟨s7,r8⟩:=q7
 simp only at hc8 hl8 b7
 refine z_aa [0] (fun β w' hs=>z_qi w' rb A8 c8 r8 hc8 ((hs.sub 1 rfl rfl (bsF A8 r8.p) rfl (no hl8 (hs.get 1 rfl)) (dom hl8)).mem.take (js:=[1,0]) rfl)) ?_
 rintro v Fs ⟨A9,c9,rfl,hc9,hm9,rfl⟩
 have hl9:=hl8.trans hm9
 have b8:=z_sA r8
 clear hm9
 generalize hq8:r8.txt=q8 at *
 obtain ⟨s8,r9⟩:=q8
 simp only at hc9 hl9 b8
 have hall:rdAll p=(n0,⟨n1,n2,n3,n4,n5,s6,s7,s8⟩,r9):=by
  unfold rdAll
  simp only [hr0,hq0,hq1,hq2,hq3,hq4,hq5,hq6,hq7,hq8]
 refine ⟨.bool r9.bad,fun β w' hs=>z_ai (hs.get 0 rfl) (o:=1) rfl,?_⟩
 have bad: ¬(r9.bad=false/\r9.p=[]/\n0=1/\(⟨n1,n2,n3,n4,n5,s6,s7,s8⟩:Tk).Right)->readT p=none:=fun h=>by
  unfold readT
  rw [hall,if_neg h]
 cases hb:r9.bad with
 | true=>
  intro β w' hs
  exact (hs.keepB (List.nil_sublist _)).fin [] ⟨.inr ⟨bad (fun h=>by rw [hb] at h;cases h.1),rfl⟩,rfl⟩
 | false=>
 refine ⟨.slice A9 r9.p.length c9,fun β w' hs=>z_ai (hs.get 0 rfl) (o:=0) rfl,?_⟩
 refine BIf.dec (fun h1=>?_) (fun h1=>?_)
 ·have h10:(r9.p.length:Int)>0:=h1
  intro β w' hs
  exact (hs.keepB (List.nil_sublist _)).fin [] ⟨.inr ⟨bad (fun h=>by rw [h.2.1] at h10;exact absurd h10 (by decide)),rfl⟩,rfl⟩
 have h10: ¬(r9.p.length:Int)>0:=h1
 refine BIf.not (BIf.dec (fun h2=>?_) (fun h2=>?_))
 rotate_left
 ·have h20: ¬(n0:Int)=1:=h2
  intro β w' hs
  exact (hs.keepB (List.nil_sublist _)).fin [] ⟨.inr ⟨bad (fun h=>h20 (by rw [h.2.2.1];rfl)),rfl⟩,rfl⟩
 have h20:(n0:Int)=1:=h2
 have hok:(⟨n1,n2,n3,n4,n5,s6,s7,s8⟩:Tk).Ok:=⟨b1,b2,b3,b4,b5,b6,b7,b8⟩
 refine z_ah (v:= .bool (decide (⟨n1,n2,n3,n4,n5,s6,s7,s8⟩:Tk).Right)) (fun β w' hs=>z_rR w' ⟨n1,n2,n3,n4,n5,s6,s7,s8⟩ (hn.old (hs.get 1 rfl)) hok) ?_
 refine BIf.not (BIf.dec (fun h3=>?_) (fun h3=>?_))
 rotate_left
 ·intro β w' hs
  exact (hs.keepB (List.nil_sublist _)).fin [] ⟨.inr ⟨bad (fun h=>h3 h.2.2.2),rfl⟩,rfl⟩
 have h11:r9.p=[]:=List.length_eq_zero_iff.1 (by clear hall;omega)
 have hrd:readT p=some ⟨n1,n2,n3,n4,n5,s6,s7,s8⟩:=by
  unfold readT
  rw [hall]
  exact if_pos ⟨hb,h11,by clear hall;show n0=1;omega,h3⟩
 intro β w' hs
 exact (hs.keepB (List.nil_sublist _)).fin [] ⟨.inl ⟨_,hrd,hok,rfl⟩,rfl⟩
theorem z_s6 {s b m:List UInt8} (hd:(46:UInt8)∈s) (hl: ¬4096<s.length) (h1:decU (dotA s)=some b) (h2:decU (dotB s)=some m) (hm:m.length=32):splitT s=(some (b,m),0):=by
 unfold splitT
 rw [if_neg hl,if_pos hd,h1,h2]
 exact if_pos hm
theorem z_gI {s:List UInt8} (hl: ¬4096<s.length) (h: ∀b m,(46:UInt8)∈s->decU (dotA s)=some b->decU (dotB s)=some m->m.length=32->False):splitT s=(none,4):=by
 unfold splitT
 rw [if_neg hl]
 by_cases hd:(46:UInt8)∈s
 ·rw [if_pos hd]
  cases h1:decU (dotA s) with
  | none=>rfl
  | some b=>
   cases h2:decU (dotB s) with
   | none=>rfl
   | some m=>exact if_neg (fun q=>h b m hd h1 h2 q)
 ·rw [if_neg hd]
def splV (s:List UInt8) (v:Value) (Fs:List Fact):Prop:=(∃b m A c B d,splitT s=(some (b,m),0)/\b.length<=s.length/\m.length=32/\v= .tuple #[.slice A b.length c,.slice B m.length d,.int .i64 0]/\b.length<=c/\m.length<=d/\Fs=[browF z_ab A b c,browF z_ab B m d])\/(∃e,splitT s=(none,e)/\(e=3\/e=4)/\v= .tuple #[.slice none 0 0,.slice none 0 0,.int .i64 e]/\Fs=[])
open Classical in
theorem z_vq (w:World) (s:List UInt8) (hL:s.length<=1000000) (hm:mlF.p w):Con Tryz.prog z_lb #[.string (mkS s)] w [] (splV s):=by
 have g:=z_np w (Un [])
 refine z_ac (cx:=z_jS w (Un [])) g z_ps rfl rfl (β:=Va.z) [.c (.v (.string (mkS s)))] 0 [] [oldF w] rfl rfl (z_aS rfl) ?_
 have hz:=z_gN s
 refine BIf.dec (fun h1=>?_) (fun h1=>?_)
 ·have h10:((mkS s).size:Int)>4096:=h1
  intro β w' hs
  refine hs.fin [] (.inr ⟨3,?_,.inl rfl,rfl,rfl⟩)
  unfold splitT
  rw [if_pos (by omega)]
 have h10: ¬((mkS s).size:Int)>4096:=h1
 refine z_ah (fun β w' hs=>z_x2 w' s hL (z_zp hm (hs.get 0 rfl))) ?_
 rw [z_vv]
 by_cases hd:(46:UInt8)∈s
 ·obtain ⟨e0,_⟩:=z_pe hd
  have hlen:s.length=(dotA s).length+((dotB s).length+1):=by conv=>lhs;rw [e0,List.length_append,List.length_cons]
  rw [if_pos hd]
  refine z_aa [] (fun β w' hs=>z_iq w' (dotA s) (by omega)) ?_
  rintro v Fs ⟨A,b,c,e,rfl,he,hc,rfl⟩
  refine z_aa [] (fun β w' hs=>z_iq w' (dotB s) (by omega)) ?_
  rintro v Fs ⟨B,m,d,f,rfl,hf,hdc,rfl⟩
  rcases he with ⟨rfl,he⟩ | ⟨he0,he⟩
  rotate_left
  ·refine BIf.not (BIf.dec (fun q=>absurd q he0) (fun _=>?_))
   intro β w' hs
   exact hs.fin [] (.inr ⟨4,z_gI (by omega) (fun b m _ q=>by rw [he] at q;cases q),.inr rfl,rfl,rfl⟩)
  rcases hf with ⟨rfl,hf⟩ | ⟨hf0,hf⟩
  rotate_left
  ·refine BIf.not (BIf.dec (fun q=>absurd q hf0) (fun _=>?_))
   intro β w' hs
   exact hs.fin [] (.inr ⟨4,z_gI (by omega) (fun b m _ _ q=>by rw [hf] at q;cases q),.inr rfl,rfl,rfl⟩)
  refine BIf.not (BIf.dec (fun h2=>?_) (fun h2=>?_))
  ·have h20:(m.length:Int)=32:=h2
   intro β w' hs
   exact hs.fin [1,0] (.inl ⟨b,m,A,c,B,d,z_s6 hd (by omega) he hf (by omega),by have:=z_ts he;omega,by omega,rfl,hc,hdc,rfl⟩) rfl rfl rfl ⟨rfl,rfl,trivial⟩
  ·have h20: ¬(m.length:Int)=32:=h2
   intro β w' hs
   exact hs.fin [] (.inr ⟨4,z_gI (by omega) (fun b' m' _ _ q h=>by rw [hf] at q;injection q with q;subst q;exact h20 (by omega)),.inr rfl,rfl,rfl⟩)
 ·rw [if_neg hd]
  refine z_aa [] (fun β w' hs=>z_iq w' s (by omega)) ?_
  rintro v Fs ⟨A,b,c,e,rfl,he,hc,rfl⟩
  refine z_aa [] (fun β w' hs=>z_iq w' [] (by decide)) ?_
  rintro v Fs ⟨B,m,d,f,rfl,hf,hdc,rfl⟩
  intro β w' hs
  exact hs.fin [] (.inr ⟨4,z_gI (by omega) (fun b m q=>absurd q hd),.inr rfl,rfl,rfl⟩)
theorem z_eK {f:Fact} {W w:World} (h:f.p W) (hD: ∀k,f.D k->k<W.heap.size) (ho:(oldF W).p w):f.p w:=f.st W w (fun k hk=>ho k (hD k hk)) h
theorem z_xo (w:World):(zeroValue z_al).run Tryz.prog w= .ok (.slice none 0 0) w:=by kernel_rfl
theorem z_w0 (w:World) (r:Rg):Con Tryz.prog z_gR #[ptrR r.b] w [] (fun v Fs=> ∃bx,v= .func (.func z_cY) #[] #[.pointer (some ⟨bx,0,none⟩)]/\Fs=[bkF bx z_ax [ptrR r.b]]):=by
 refine z_ac (cx:=z_gh w (Un [])) (z_jD w (Un [])) z_mf rfl rfl (β:=Va.z) [.c (.v (ptrR r.b))] 0 [] [] rfl rfl (Sat.start rfl) ?_
 intro β w' hs
 exact hs.ofBk.fin [0] ⟨β 0,rfl,rfl⟩
def Rg.key (r:Rg) (e:Int):Option RKey:=r.ks.find? fun k=>decide ((k.e:Int)=e)
theorem z_qj (e:Int): ∀ks:List RKey,ilook (ks.map fun k=>((k.e:Int),k.v)) e=(ks.find? fun k=>decide ((k.e:Int)=e)).map RKey.v
 | []=>rfl
 | k::t=>by
  by_cases h:(k.e:Int)=e
  ·simp [ilook,List.find?,h]
  ·simp only [List.map_cons,ilook,if_neg h,List.find?,decide_eq_false h]
   exact z_qj e t
theorem z_yZ {r:Rg} {w:World} (h:(rgF r).p w) {k:RKey} (hk:k∈r.ks):k.f.p w:=by
 have h1:(sepF (r.ks.map RKey.f)).p w:=h.1 (sepF (r.ks.map RKey.f)) (by simp)
 exact h1.1 k.f (List.mem_map.2 ⟨k,hk,rfl⟩)
def keyOut (o:Option RKey) (v:Value) (Fs:List Fact):Prop:=match o with
 | none=>v= .tuple #[.slice none 0 0,.int .i64 15]/\Fs=[]
 | some k=> ∃A c,v= .tuple #[.slice A k.p.length c,.int .i64 0]/\k.p.length<=c/\Fs=[browF z_ab A k.p c]
theorem key_c (w:World) (r:Rg) (e:Int) (h:(rgF r).p w) (hl: ∀k,(rgF r).D k->k<w.heap.size) (hp: ∀k∈r.ks,k.p.length<=1000):Con Tryz.prog z_jq #[ptrR r.b,.int .u64 e] w [] (keyOut (r.key e)):=by
 have g:=z_mc w (Un [])
 refine z_ac (cx:=z_ix w (Un [])) g z_ol rfl rfl (β:=Va.z) [.c (.v (ptrR r.b)),.c (.v (.int .u64 e))] 0 [] [oldF w] rfl rfl (z_aS rfl) ?_
 refine ⟨.map (some r.m),fun β w' hs=>z_ai (rg_bk (z_eK h hl (hs.get 0 rfl))) (o:=3) rfl,?_⟩
 refine ⟨rfl,.slice none 0 0,fun w=>z_xo w,r.ml,(r.key e).map RKey.v,fun β w' hs=>z_xB (z_eK h hl (hs.get 0 rfl)),z_qj e r.ks,?_⟩
 cases hk:r.key e with
 | none=>
  intro β w' hs
  exact hs.fin [] ⟨rfl,rfl⟩
 | some k=>
  have hm:k∈r.ks:=List.mem_of_find?_eq_some hk
  refine z_aa [] (fun β w' hs=>z_lP w' k.A k.p k.c (z_aj (z_yZ (z_eK h hl (hs.get 0 rfl)) hm)) (by have:=hp k hm;omega)) ?_
  rintro v Fs ⟨A,c,rfl,hc,_,rfl⟩
  intro β w' hs
  exact hs.fin [0] ⟨A,c,rfl,hc,rfl⟩
end Go.Proofs.YtfomhhkoamapmaaGreatDoor.Sx
namespace Go.Proofs.YtfomhhkoamapmaaGreatDoor.Sx
open Go
theorem Sat.mapPutI {cx:Cx} {β:Va} {n:Nat} {H:List Bk} {F:List Fact} {w:World} (h:Sat cx β n H F w) (g:Good cx) (j:Nat) {b:Nat} {l:MLI} {kk:IntKind} (hj:nth F j=some (mapIF kk b l)) {t kt et:TypeId} {i ik:TI} (s:Int) (v:Value) (hi:lk cx.tt t=some i:=by rfl) (hd:i.desc= .map kt et:=by rfl) (hik:lk cx.tt kt=some ik:=by rfl) (hdk:ik.desc= .int kk:=by rfl):
  ∃w',(Instr.mapUpdate t (.map (some b)) (.int kk s) v).run cx.P w= .ok () w'/\Sat cx β n H (putAt F j (mapIF kk b (iput l s v))) w':=by
 obtain ⟨o,e1,e2⟩:=z_xn (P:=cx.P) ((g.ti hi).real (d:= .map _ _) hd rfl) ((g.ti hik).real (d:= .int kk) hdk rfl) (h.get j hj) s v
 exact ⟨_,e1,h.upd hj rfl (z_sa o) e2 (fun k hk=> .inl hk)⟩
theorem Sat.mapPutIY {cx:Cx} {β:Va} {n:Nat} {H:List Bk} {F:List Fact} {w:World} (h:Sat cx β n H F w) (g:Good cx) (j:Nat) {b:Nat} {l:MLI} {kk:IntKind} (hj:nth F j=some (mapIF kk b l)) {t kt et:TypeId} {i ik:TI} (s:Int) (v:Value) (hi:lk cx.tt t=some i:=by rfl) (hd:i.desc= .map kt et:=by rfl) (hik:lk cx.tt kt=some ik:=by rfl) (hdk:ik.desc= .int kk:=by rfl):
  ∃(w':World) (y:Nat),(Instr.mapUpdate t (.map (some b)) (.int kk s) v).run cx.P w= .ok () w'/\Sat cx β n H ((fun _=>putAt F j (mapIF kk b (iput l s v))) y) w':=by
 obtain ⟨w',e1,e2⟩:=h.mapPutI g j hj s v hi hd hik hdk
 exact ⟨w',0,e1,e2⟩
theorem Sat.mapDelI {cx:Cx} {β:Va} {n:Nat} {H:List Bk} {F:List Fact} {w:World} (h:Sat cx β n H F w) (g:Good cx) (j:Nat) {b:Nat} {l:MLI} {kk:IntKind} (hj:nth F j=some (mapIF kk b l)) {t tk kt et:TypeId} {i ik:TI} (s:Int) (ty:TypeId) (cst:Array Bool) (hi:lk cx.tt t=some i:=by rfl) (hd:i.desc= .map kt et:=by rfl) (hik:lk cx.tt kt=some ik:=by rfl) (hdk:ik.desc= .int kk:=by rfl):
  ∃w',(builtin .delete #[t,tk] ty cst #[.map (some b),.int kk s]).run cx.P w= .ok (.value (.tuple #[])) w'/\Sat cx β n H (putAt F j (mapIF kk b (idel l s))) w':=by
 obtain ⟨o,e1,e2⟩:=z_w9 (P:=cx.P) (tk:=tk) ((g.ti hi).real (d:= .map _ _) hd rfl) ((g.ti hik).real (d:= .int kk) hdk rfl) (h.get j hj) s ty cst
 exact ⟨_,e1,h.upd hj rfl (z_sa o) e2 (fun k hk=> .inl hk)⟩
end Go.Proofs.YtfomhhkoamapmaaGreatDoor.Sx
namespace Go.Proofs.YtfomhhkoamapmaaGreatDoor.Sx
open Go
attribute [local irreducible] Calls
def outL (F:Bx.Box->Lay->Fact) (r:List UInt8×Bx.Box) (v:Value) (Fs:List Fact):Prop:=
 ∃A c y',v= .slice A r.1.length c/\r.1.length<=c/\c<=maxLen/\y'.ts.map (·.1)=r.2.L/\Fs=[browF z_ab A r.1 c,F r.2 y']
theorem z_sX {b:Nat} {r:List UInt8×Bx.Box} {v:Value} {Fs:List Fact} (h:r.1.length=32) (k:boxOut b r v Fs):outL (bxF b) r v Fs:=by
 obtain ⟨A,c,y',rfl,h1,h2,h3,rfl⟩:=k
 exact ⟨A,c,y',by rw [h],by rw [h];exact h1,h2,h3,rfl⟩
theorem z_uV {b:Nat} {r:List UInt8×Bx.Box} {v:Value} {Fs:List Fact} (h:r.1.length=32) (k:rtagOut b r v Fs):outL (rbxF b) r v Fs:=by
 obtain ⟨A,c,y',rfl,h1,h2,h3,rfl⟩:=k
 exact ⟨A,c,y',by rw [h],by rw [h];exact h1,h2,h3,rfl⟩
theorem z_tg (A:Option Addr) (l:List UInt8) (c:Nat):partsT [(A,l,c)]=l:=by simp [partsT]
theorem z_y1 (w:World) (b:Nat) (B:Bx.Box) (y:Lay) (K:Option Addr) (key:List UInt8) (cK:Nat) (b0:Nat) (A:Option Addr) (l:List UInt8) (c:Nat) (hts:y.ts.map (·.1)=B.L) (hi:BInv B) (hL:B.L.length<4096) (hk:key.length<=1000000) (hn:l.length<=1000000) (hm:Mem w [bxF b B y,partF (some ⟨b0,0,none⟩) [(A,l,c)],bsF K key,oddF 3,firstF 1]):
  Con Tryz.prog z_fC #[ptrB b,.slice K key.length cK,.slice (some ⟨b0,0,none⟩) 1 1] w [bxF b B y] (outL (bxF b) (macB B key l)):=by
 have k:=z_xN w b B y K key cK b0 [(A,l,c)] 1 hts (by omega) hk (by simp) (Nat.le_refl 1) (by show 1<=1000;decide) (by rw [z_tg];exact hn) hm
 rw [z_tg] at k
 exact k.mono fun v Fs h=>z_sX (z_ev hi hL hk hn).2.1 h
theorem z_ss (w:World) (b:Nat) (B:Bx.Box) (y:Lay) (K P:Option Addr) (key text:List UInt8) (cK cP:Nat) (hts:y.ts.map (·.1)=B.L) (hi:BInv B) (hL:B.L.length<4096) (hk:key.length<=1000000) (hn:text.length<=1000000) (hm:Mem w [rbxF b B y,bsF K key,bsF P text,oddF 10]):
  Con Tryz.prog z_dS #[ptrB b,.slice K key.length cK,.slice P text.length cP] w [rbxF b B y] (outL (rbxF b) (macB B key text)):=
 (z_zi w b B y K P key text cK cP hts (by omega) hi.sz hk hn hm).mono fun v Fs h=>z_uV (z_ev hi hL hk hn).2.1 h
structure RgOk (r:Rg):Prop where
 rise:(r.ks.map (·.e)).Pairwise (· < ·)
 le: ∀k∈r.ks,k.e<=r.epoch
 len:r.ks.length<=r.room
 room:r.room<=8
 master:r.master.length<=64
 ep:r.epoch<98
def keyS:ByteArray:=⟨#[107,101,121,32]⟩
def keyT (e:Nat):ByteArray:=keyS++decimS e
def Rg.more (r:Rg) (A:Option Addr) (c:Nat) (p:List UInt8):Rg:= {r with epoch:=r.epoch+1,ks:=r.ks++[⟨r.epoch+1,A,c,p⟩]}
def Rg.cut (r:Rg):Rg:=if r.room<r.ks.length then {r with ks:=r.ks.tail} else r
theorem z_oJ {u:Nat} (hu:u<100):(decimS u).size<=2:=by
 have h: ∀u:_root_.Fin 100,(decimS u.1).size<=2:=by decide+kernel
 exact h ⟨u,hu⟩
theorem z_vo {r:Rg} (hok:RgOk r):ilook r.ml ((r.epoch+1:Nat):Int)=none:=by
 rw [Rg.ml,z_qj]
 have:(r.ks.find? fun k=>decide ((k.e:Int)=((r.epoch+1:Nat):Int)))=none:=by
  refine List.find?_eq_none.2 fun k hk=>?_
  have:=hok.le k hk
  simp
  omega
 rw [this]
 rfl
theorem z_n6: ∀ {l:MLI} {s:Int} {v:Value},ilook l s=none->iput l s v=l++[(s,v)]
 | [],_,_,_=>rfl
 | (k,u)::r,s,v,h=>by
  simp only [ilook] at h
  split at h
  ·cases h
  ·rename_i hne
   simp only [iput,if_neg hne,List.cons_append]
   rw [z_n6 h]
theorem z_vs {r:Rg} (hok:RgOk r) {A:Option Addr} {c:Nat} {p:List UInt8}:(r.more A c p).rise=(r.more A c p).es:=by
 have h1:((r.ks++[(⟨r.epoch+1,A,c,p⟩:RKey)]).map (·.e)).Pairwise (· < ·):=by
  rw [List.map_append,List.pairwise_append]
  refine ⟨hok.rise,List.pairwise_singleton _ _,fun x hx y hy=>?_⟩
  obtain ⟨k,hk,rfl⟩:=List.mem_map.1 hx
  obtain rfl:=List.mem_singleton.1 hy
  have:=hok.le k hk
  show k.e<r.epoch+1
  omega
 have h2:=List.pairwise_map.1 h1
 unfold Rg.rise
 refine List.mergeSort_of_pairwise (List.pairwise_map.2 (h2.imp fun {a b} q=>?_))
 simp
 omega
set_option maxHeartbeats 2000000 in
theorem z_tx (w:World) (r:Rg) (B:Bx.Box) (y:Lay) (hok:RgOk r) (hts:y.ts.map (·.1)=B.L) (hi:BInv B) (hL:B.L.length<4000) (hm:Mem w [rgF r,bxF r.bx B y,oddF 3,firstF 1]):
  Con Tryz.prog z_gJ #[ptrR r.b] w [rgF r,bxF r.bx B y] fun v Fs=> ∃A c y',v= .tuple #[.int .u64 ((r.epoch+1:Nat):Int),.int .i64 0]/\y'.ts.map (·.1)=(macB B r.master (keyT (r.epoch+1)).data.toList).2.L/\
   Fs=[rgF (r.more A c (macB B r.master (keyT (r.epoch+1)).data.toList).1).cut,bxF r.bx (macB B r.master (keyT (r.epoch+1)).data.toList).2 y']:=by
 have g:=z_jQ w (Un [rgF r,bxF r.bx B y])
 have hml:=maxLen_eq
 have hs0:Sat (z_dn w (Un [rgF r,bxF r.bx B y])) Va.z 0 [] [rgF r,bxF r.bx B y,oddF 3,firstF 1] w:=hm.sat0 rfl (ownIn (Gs:=[rgF r,bxF r.bx B y]) (fun f hf=>by
  simp only [List.mem_cons,List.not_mem_nil,or_false] at hf
  rcases hf with rfl | rfl<;>rfl))
 have hs1:=hs0.unsep 0 rfl
 obtain ⟨e,he⟩: ∃e,r.epoch=e:=⟨_,rfl⟩
 have hep:=hok.ep
 have hma:=hok.master
 refine z_ac (cx:=z_dn w (Un [rgF r,bxF r.bx B y])) g z_mU rfl rfl (β:=Va.z) [.c (.v (ptrR r.b))] 0 [] _ rfl rfl hs1 ?_
 obtain ⟨x,hx⟩: ∃x:Int,(r.epoch:Int)=x:=⟨_,rfl⟩
 obtain ⟨x1,hx1⟩: ∃x1:Int,((r.epoch+1:Nat):Int)=x1:=⟨_,rfl⟩
 refine ⟨.int .u64 x,fun β w' hs=>by rw [<-hx];exact z_ai (hs.get 0 rfl) (o:=4) rfl,?_⟩
 refine BIf.dec (fun h=>absurd h (show¬(4294967296:Int)<=x by omega)) (fun _=>?_)
 refine ⟨.int .u64 x,fun β w' hs=>by rw [<-hx];exact z_ai (hs.get 0 rfl) (o:=4) rfl,?_⟩
 refine ⟨x1,by rw [z_aD];omega,?_⟩
 refine ⟨_,fun β w' hs=>hs.bkSet 0 (o:=4) (us:=[.int .u64 x1]) rfl (by show 5<=5;decide) (z_a9 rfl),?_⟩
 have hds:=z_oJ (u:=r.epoch+1) (by omega)
 have hks:keyS.size=4:=rfl
 have hkl:(keyT (r.epoch+1)).data.toList.length<=10:=by show (keyS++decimS (r.epoch+1)).size<=10;rw [ByteArray.size_append];omega
 refine z_af g z_kC (by kernel_rfl) [⟨0,z_ax,[.v (ptrR r.b)]⟩] [bkF r.b z_cH (putAll r.vs 4 [.int .u64 x1])] (subPerm [0]) ?_
 refine ⟨.map (some r.m),fun β w' hs=>z_ai (hs.get 0 rfl) (o:=3) rfl,?_⟩
 refine ⟨.int .u64 x1,fun β w' hs=>z_ai (hs.get 0 rfl) (o:=4) rfl,?_⟩
 refine ⟨.pointer (some ⟨r.bx,0,none⟩),fun β w' hs=>z_ai (hs.get 0 rfl) (o:=0) rfl,?_⟩
 refine ⟨.slice r.mA r.master.length r.mc,fun β w' hs=>z_ai (hs.get 0 rfl) (o:=1) rfl,?_⟩
 refine ⟨.int .u64 x1,fun β w' hs=>z_ai (hs.get 0 rfl) (o:=4) rfl,?_⟩
 refine z_ah (v:= .string (decimS (r.epoch+1))) (fun β w' hs=>by rw [<-hx1];exact z_zl w' (r.epoch+1) (by omega)) ?_
 refine ⟨subPerm [0],?_⟩
 refine ⟨by show keyS.size+(decimS (r.epoch+1)).size<=maxLen;omega,?_⟩
 intro bb cb hcb _
 refine ⟨subPerm [1],?_⟩
 intro br
 refine ⟨subPerm [2],?_⟩
 refine z_aa [6] (R:=outL (bxF r.bx) (macB B r.master (keyT (r.epoch+1)).data.toList)) (fun β w' hs=>by
  have h2:=(((hs.rowRd 0 rfl).unown 1 rfl).ro 3 rfl).part1 (l:=(keyT (r.epoch+1)).data.toList) [0,1] rfl
  exact z_y1 w' r.bx B y r.mA r.master r.mc br (some ⟨bb,0,none⟩) (keyT (r.epoch+1)).data.toList cb hts hi (by omega) (by omega) (by omega) (h2.mem.take (js:=[7,0,4,8,9]) rfl)) ?_
 rintro v Fs ⟨A,c,y1,rfl,q1,q2,hts1,rfl⟩
 refine ⟨subPerm [4],?_⟩
 generalize macB B r.master (keyT (r.epoch+1)).data.toList=k at *
 obtain ⟨kp,kB⟩:=k
 simp only at q1 hts1
 refine ⟨_,fun _=>_,fun β w' hs=>hs.mapPutIY g 6 rfl (t:=z_ar) x1 (.slice A kp.length c),fun _=>?_⟩
 refine ⟨subPerm [4],?_⟩
 rw [show iput r.ml x1 (.slice A kp.length c)=(r.more A c kp).ml from by rw [z_n6 (by rw [<-hx1];exact z_vo hok)];simp [Rg.ml,Rg.more,RKey.v,<-hx1]]
 have hx1':x1=((r.more A c kp).epoch:Int):=hx1.symm
 have e1:rgF (r.more A c kp)=sepF [bkF r.b z_cH (putAll r.vs 4 [.int .u64 x1]),browF z_ab r.mA r.master r.mc,mapIF .u64 r.m (r.more A c kp).ml,sepF (r.ks.map RKey.f++[browF z_ab A kp c])]:=by
  rw [hx1']
  unfold rgF
  simp [Rg.more,Rg.vs,putAll,z_aT,RKey.f]
 refine z_aa [] (fun β w' hs=>z_w0 w' (r.more A c kp)) ?_
 rintro v Fs ⟨bx2,rfl,rfl⟩
 refine z_ca (α:=Int) (ι:=Unit) (κ:=Unit) g rfl (cv:=[.pointer (some ⟨bx2,0,none⟩)]) rfl (by kernel_rfl) 1 (Nat.le_refl 1)
  (fun pre _=>pre=[]) (fun _=>[⟨0,z_ax,[.v (ptrR r.b)]⟩]) (fun _=>[bxF r.bx kB y1]) (fun i=>⟨rfl,trivial⟩)
  (fun e _ _=>e= .exit 1) (fun _=>[⟨0,z_ax,[.v (ptrR r.b)]⟩]) (fun _=>[rgF (r.more A c kp).cut,bxF r.bx kB y1]) (fun _=>⟨rfl,rfl,trivial⟩)
  [bkF bx2 z_ax [ptrR r.b],rgF (r.more A c kp)] [] [] ⟨rfl,rfl,trivial⟩ (fun g h=>by cases h) () rfl
  (fun β w hs=>⟨β,Agr.refl _ _,by
   have h2:=hs.blur 1 8 (A:=r.ks.map RKey.f) (B:=[]) (x:=browF z_ab A kp c) rfl (by show some (sepF (r.ks.map RKey.f))=_;rw [List.append_nil]) rfl (by decide)
   have h3:=h2.sep [5,6,7,0] rfl ⟨rfl,rfl,rfl,rfl,trivial⟩
   rw [e1]
   exact h3.perm [1,0,2]⟩) (insE (r.more A c kp) (r.more A c kp).rise)
  (fun xs Fs'=>xs=(r.more A c kp).rise/\Fs'=onFst (r.more A c kp).rise [rgF (r.more A c kp)] []) (fun _ Fs'=>Fs'=[])
  (fun l w f0 R J Jx hJ0 hJo hRo hY hm=>(ep_it l w bx2 (r.more A c kp) f0 R J Jx (by have h1:=hok.len;have h2:=hok.room;show (r.ks++[_]).length<=12;rw [List.length_append];show r.ks.length+1<=12;omega) hJ0 hJo hRo hY hm).mono fun _ Fs h=>by
   obtain ⟨f,Fs',e0,h⟩:=h
   refine ⟨f,Fs',e0,?_⟩
   rcases h with ⟨xs,a1,a2,a3⟩ | ⟨pre,a1,a2⟩
   ·exact .inl ⟨xs,a1,a2,a3⟩
   ·exact .inr ⟨pre,a1,a2⟩) ?_ ?_ ?_
 ·rintro ⟨⟩ pre x args X W S' lb bs pn pn' hbs rfl ⟨rfl,rfl,hx0⟩
  refine ⟨_,rfl,?_⟩
  obtain ⟨rm,hrm⟩: ∃rm:Int,(r.room:Int)=rm:=⟨_,rfl⟩
  refine z_af (z_dM g) z_kN (by kernel_rfl) [⟨0,z_ax,[.v (ptrR r.b)]⟩] [rgF (r.more A c kp)] (subPerm [0]) ?_
  refine ⟨.map (some r.m),fun β w' hs=>z_ai (rg_bk (hs.get 0 rfl)) (o:=3) rfl,?_⟩
  refine ⟨(r.more A c kp).ml,fun β w' hs=>z_xB (hs.get 0 rfl),?_⟩
  refine ⟨.int .i64 rm,fun β w' hs=>by rw [<-hrm];exact z_ai (rg_bk (hs.get 0 rfl)) (o:=2) rfl,?_⟩
  have hmll:(r.more A c kp).ml.length=(r.more A c kp).ks.length:=by rw [Rg.ml,List.length_map]
  refine BIf.dec (fun hgt=>?_) (fun hle=>?_)
  ·have hgt0:rm<((r.more A c kp).ml.length:Int):=hgt
   have hcut:(r.more A c kp).cut= {(r.more A c kp) with ks:=(r.more A c kp).ks.tail}:=by
    unfold Rg.cut
    rw [if_pos (by show r.room<_;omega)]
   refine ⟨.map (some r.m),fun β w' hs=>z_ai (rg_bk (hs.get 0 rfl)) (o:=3) rfl,?_⟩
   obtain ⟨k0,t,hkt⟩: ∃k0 t,(r.more A c kp).ks=k0::t:=by
    cases hq:(r.more A c kp).ks with
    | nil=>
     have h2:(r.more A c kp).ks.length=r.ks.length+1:=by show (r.ks++[_]).length=_;rw [List.length_append];rfl
     rw [hq] at h2
     cases h2
    | cons k0 t=>exact ⟨k0,t,rfl⟩
   have hxk:x=(k0.e:Int):=by
    rw [z_vs hok,Rg.es,hkt] at hx0
    exact (Option.some.inj hx0).symm
   have hdel:idel (r.more A c kp).ml x=(r.more A c kp).cut.ml:=by
    rw [hcut,Rg.ml,Rg.ml,hkt,hxk]
    simp [idel]
   refine ⟨[⟨0,z_ax,[.v (ptrR r.b)]⟩],[rgF (r.more A c kp).cut,bxF r.bx kB y1],.c (.v (.tuple #[])),fun β w' ty hs=>?_,trivial,?_⟩
   ·have h1:=Sat.unsep hs 0 rfl
    obtain ⟨w2,f1,f2⟩:=h1.mapDelI (z_dM g) 2 rfl (t:=z_ar) (tk:=z_aA) x ty _
    refine ⟨w2,f1,?_⟩
    have h3:=f2.fuse [3] (sepF ((r.more A c kp).cut.ks.map RKey.f)) (fun w hm=>by
     have h:=hm.fact (sepF ((r.more A c kp).ks.map RKey.f)) List.mem_cons_self
     rw [hkt] at h
     rw [hcut,hkt]
     exact ⟨fun f hf=>h.1 f (List.mem_cons_of_mem _ hf),(List.pairwise_cons.1 h.2).2⟩) (fun k hk=>by
     refine ⟨sepF ((r.more A c kp).ks.map RKey.f),List.mem_cons_self,?_⟩
     rw [hcut,hkt] at hk
     rw [hkt]
     obtain ⟨f,hf,hk⟩:=hk
     exact ⟨f,List.mem_cons_of_mem _ hf,hk⟩)
    have h4:=h3.sep [1,2,3,0] rfl ⟨rfl,rfl,rfl,rfl,trivial⟩
    have e2:rgF (r.more A c kp).cut=sepF [bkF (r.more A c kp).b z_cH (r.more A c kp).vs,browF z_ab (r.more A c kp).mA (r.more A c kp).master (r.more A c kp).mc,mapIF .u64 (r.more A c kp).m (idel (r.more A c kp).ml x),sepF ((r.more A c kp).cut.ks.map RKey.f)]:=by
     rw [hdel]
     unfold rgF
     rw [hcut]
     rfl
    rw [e2]
    exact h4
   ·exact ⟨(),rfl,Ent.mk' trivial rfl (fun β w hs=>hs)⟩
  ·have hle0: ¬rm<((r.more A c kp).ml.length:Int):=hle
   have hcut:(r.more A c kp).cut=r.more A c kp:=by
    unfold Rg.cut
    rw [if_neg (by show¬r.room<_;omega)]
   exact ⟨(),rfl,Ent.mk' trivial rfl (fun β w hs=>by rw [hcut];exact hs)⟩
 ·rintro xs ⟨⟩ Fs rfl ⟨hxs,rfl⟩
  exfalso
  have h1:(r.more A c kp).rise.length=(r.more A c kp).ks.length:=by rw [Rg.rise,List.length_mergeSort,Rg.es,List.length_map]
  rw [<-hxs] at h1
  have h2:(r.more A c kp).ks.length=r.ks.length+1:=by show (r.ks++[_]).length=_;rw [List.length_append];rfl
  rw [h2] at h1
  cases h1
 ·rintro e' pre ⟨⟩ Fs rfl rfl
  have hcb:(r.more A c kp).cut.b=r.b:=by unfold Rg.cut;split<;>rfl
  have hcv:(r.more A c kp).cut.vs=(r.more A c kp).vs:=by unfold Rg.cut;split<;>rfl
  refine ⟨.int .u64 x1,fun β w' hs=>?_,?_⟩
  ·have h:=rg_bk (hs.get 0 rfl)
   rw [hcb,hcv] at h
   rw [<-hx1]
   exact z_ai h (o:=4) rfl
  intro β w' hs
  rw [<-hx1] at *
  exact (hs.keepB (List.nil_sublist _)).fin [0,1] ⟨A,c,y1,rfl,hts1,rfl⟩
theorem z_vH {r:Rg} (hok:RgOk r) (hep:r.epoch+1<98) {A:Option Addr} {c:Nat} {p:List UInt8}:RgOk (r.more A c p).cut:=by
 have h1:((r.ks++[(⟨r.epoch+1,A,c,p⟩:RKey)]).map (·.e)).Pairwise (· < ·):=by
  rw [List.map_append,List.pairwise_append]
  refine ⟨hok.rise,List.pairwise_singleton _ _,fun x hx y hy=>?_⟩
  obtain ⟨k,hk,rfl⟩:=List.mem_map.1 hx
  obtain rfl:=List.mem_singleton.1 hy
  have:=hok.le k hk
  show k.e<r.epoch+1
  omega
 have h2: ∀k∈r.ks++[(⟨r.epoch+1,A,c,p⟩:RKey)],k.e<=r.epoch+1:=by
  intro k hk
  rcases List.mem_append.1 hk with hk | hk
  ·have:=hok.le k hk
   omega
  ·obtain rfl:=List.mem_singleton.1 hk
   exact Nat.le_refl _
 have h3:(r.ks++[(⟨r.epoch+1,A,c,p⟩:RKey)]).length=r.ks.length+1:=by rw [List.length_append];rfl
 have hl:=hok.len
 unfold Rg.cut
 split
 ·refine ⟨?_,fun k hk=>h2 k (List.mem_of_mem_tail hk),?_,hok.room,hok.master,hep⟩
  ·show (((r.ks++[(⟨r.epoch+1,A,c,p⟩:RKey)]).tail).map (·.e)).Pairwise (· < ·)
   exact h1.sublist ((List.tail_sublist _).map _)
  ·show ((r.ks++[(⟨r.epoch+1,A,c,p⟩:RKey)]).tail).length<=r.room
   rw [List.length_tail,h3]
   omega
 ·rename_i hn
  have hn2: ¬r.room<(r.ks++[(⟨r.epoch+1,A,c,p⟩:RKey)]).length:=hn
  exact ⟨h1,h2,by show (r.ks++[(⟨r.epoch+1,A,c,p⟩:RKey)]).length<=r.room;omega,hok.room,hok.master,hep⟩
def ring0 (b bx:Nat) (mA:Option Addr) (mc:Nat) (master:List UInt8) (room m:Nat):Rg:=⟨b,bx,mA,mc,master,room,m,[],0⟩
theorem z_xz (w:World) (bx:Nat) (B:Bx.Box) (y:Lay) (M:Option Addr) (master:List UInt8) (cM room:Nat) (h1:1<=master.length) (h2:master.length<=64) (h3:1<=room) (h4:room<=8) (hts:y.ts.map (·.1)=B.L) (hi:BInv B) (hL:B.L.length<4000) (hm:Mem w [bxF bx B y,bsF M master,oddF 3,firstF 1]):
  Con Tryz.prog z_ni #[ptrB bx,.slice M master.length cM,.int .i64 (room:Int)] w [bxF bx B y] fun v Fs=> ∃b mA mc m A c y',v= .tuple #[ptrR b,.int .i64 0]/\y'.ts.map (·.1)=(macB B master (keyT 1).data.toList).2.L/\
   Fs=[rgF ((ring0 b bx mA mc master room m).more A c (macB B master (keyT 1).data.toList).1).cut,bxF bx (macB B master (keyT 1).data.toList).2 y']:=by
 have g:=z_qm w (Un [bxF bx B y])
 have hml:=maxLen_eq
 have hs0:Sat (z_lG w (Un [bxF bx B y])) Va.z 0 [] [bxF bx B y,bsF M master,oddF 3,firstF 1] w:=hm.sat0 rfl (ownIn (Gs:=[bxF bx B y]) (fun f hf=>by
  simp only [List.mem_cons,List.not_mem_nil,or_false] at hf
  rcases hf with rfl | rfl | rfl<;>rfl))
 obtain ⟨rm,hrm⟩: ∃rm:Int,(room:Int)=rm:=⟨_,rfl⟩
 rw [hrm]
 refine z_ds (cx:=z_lG w (Un [bxF bx B y])) g z_t4 rfl rfl (β:=Va.z) [.c (.v (ptrB bx)),.c (.v (.slice M master.length cM)),.c (.v (.int .i64 rm))] 0 [] _ rfl rfl hs0 ?_
 refine z_ae g ?_
 refine z_ae g ?_
 refine BIf.dec (fun h=>absurd h (show¬(master.length:Int)<1 by omega)) (fun _=>?_)
 refine BIf.dec (fun h=>absurd h (show¬(64:Int)<(master.length:Int) by omega)) (fun _=>?_)
 refine BIf.dec (fun h=>absurd h (show¬rm<1 by omega)) (fun _=>?_)
 refine BIf.dec (fun h=>absurd h (show¬(8:Int)<rm by omega)) (fun _=>?_)
 refine z_ae g ?_
 refine z_aa [] (fun β w' hs=>z_lP w' M master cM (hs.get 1 rfl) (by omega)) ?_
 rintro v Fs ⟨mA,mc,rfl,q1,q2,rfl⟩
 intro m
 refine z_fI 0 (fun _=>[.pointer (some ⟨bx,0,none⟩),.slice mA master.length mc,.int .i64 rm,.map (some m),.int .u64 0]) rfl rfl (fun _=>rfl) (fun rb=>?_)
 refine z_ha (F':=[rgF (ring0 rb bx mA mc master room m),bxF bx B y,oddF 3,firstF 1]) (fun β w' hs=>by
  have h1:=(hs.emptyI (kk:= .u64) 1 rfl).noMem (sepF []) ⟨fun f hf=>(by cases hf),List.Pairwise.nil⟩ (fun k hk=>by obtain ⟨f,hf,_⟩:=hk;cases hf)
  have h2:=h1.sep [1,3,2,0] rfl ⟨rfl,rfl,rfl,rfl,trivial⟩
  have e:rgF (ring0 rb bx mA mc master room m)=sepF [bkF rb z_cH [.pointer (some ⟨bx,0,none⟩),.slice mA master.length mc,.int .i64 rm,.map (some m),.int .u64 0],browF z_ab mA master mc,mapIF .u64 m [],sepF []]:=by
   rw [<-hrm]
   rfl
  rw [e]
  exact h2.perm [0,1,3,4]) ?_
 have hok:RgOk (ring0 rb bx mA mc master room m):=⟨List.Pairwise.nil,fun k hk=>(by cases hk),Nat.zero_le _,h4,h2,by show 0<98;decide⟩
 refine z_ae g ?_
 refine z_aa [0,1] (fun β w' hs=>z_tx w' (ring0 rb bx mA mc master room m) B y hok hts hi hL (hs.mem.take (js:=[0,1,2,3]) rfl)) ?_
 rintro v Fs ⟨A,c,y',rfl,hts',rfl⟩
 refine z_ae g ?_
 refine z_aQ g ?_
 intro β w' hs
 exact (hs.keepB (List.nil_sublist _)).fin [0,1] ⟨rb,mA,mc,m,A,c,y',rfl,hts',rfl⟩
def newestOut (r:Rg) (v:Value) (Fs:List Fact):Prop:=match r.key (r.epoch:Int) with
 | none=>v= .tuple #[.int .u64 0,.slice none 0 0,.bool false]/\Fs=[]
 | some k=> ∃A c,v= .tuple #[.int .u64 (r.epoch:Int),.slice A k.p.length c,.bool true]/\k.p.length<=c/\Fs=[browF z_ab A k.p c]
theorem z_sF (w:World) (r:Rg) (h:(rgF r).p w) (hl: ∀k,(rgF r).D k->k<w.heap.size) (hp: ∀k∈r.ks,k.p.length<=1000):Con Tryz.prog z_gX #[ptrR r.b] w [] (newestOut r):=by
 have g:=z_kp w (Un [])
 refine z_ac (cx:=z_fT w (Un [])) g z_mM rfl rfl (β:=Va.z) [.c (.v (ptrR r.b))] 0 [] [oldF w] rfl rfl (z_aS rfl) ?_
 refine ⟨.int .u64 (r.epoch:Int),fun β w' hs=>z_ai (rg_bk (z_eK h hl (hs.get 0 rfl))) (o:=4) rfl,?_⟩
 refine z_aa [] (fun β w' hs=>key_c w' r (r.epoch:Int) (z_eK h hl (hs.get 0 rfl)) (fun k hk=>Nat.lt_of_lt_of_le (hl k hk) hs.chg.size) hp) ?_
 unfold newestOut
 cases hk:r.key (r.epoch:Int) with
 | none=>
  rintro v Fs ⟨rfl,rfl⟩
  intro β w' hs
  exact hs.fin [] ⟨rfl,rfl⟩
 | some k=>
  rintro v Fs ⟨A,c,rfl,hc,rfl⟩
  refine ⟨.int .u64 (r.epoch:Int),fun β w' hs=>z_ai (rg_bk (z_eK h hl (hs.get 1 rfl))) (o:=4) rfl,?_⟩
  intro β w' hs
  exact hs.fin [0] ⟨A,c,rfl,hc,rfl⟩
def signOut (r:Rg) (B:Bx.Box) (l:List UInt8) (v:Value) (Fs:List Fact):Prop:=match r.key (r.epoch:Int) with
 | none=>v= .tuple #[.int .u64 0,.slice none 0 0,.int .i64 15]/\ ∃y',y'.ts.map (·.1)=B.L/\Fs=[rgF r,bxF r.bx B y']
 | some k=> ∃A c y',v= .tuple #[.int .u64 (r.epoch:Int),.slice A (macB B k.p l).1.length c,.int .i64 0]/\(macB B k.p l).1.length<=c/\y'.ts.map (·.1)=(macB B k.p l).2.L/\Fs=[browF z_ab A (macB B k.p l).1 c,rgF r,bxF r.bx (macB B k.p l).2 y']
def verOut (r:Rg) (B:Bx.Box) (e:Int) (s l:List UInt8) (v:Value) (Fs:List Fact):Prop:=match r.key e with
 | none=>v= .int .i64 15/\ ∃y',y'.ts.map (·.1)=B.L/\Fs=[rgF r,bxF r.bx B y']
 | some k=>v= .int .i64 (if (macB B k.p l).1=s then 0 else 13)/\ ∃y',y'.ts.map (·.1)=(macB B k.p l).2.L/\Fs=[rgF r,bxF r.bx (macB B k.p l).2 y']
def Rg.drop (r:Rg) (e:Int):Rg:= {r with ks:=r.ks.eraseP fun k=>decide ((k.e:Int)=e)}
theorem z_ro (e:Int): ∀ks:List RKey,idel (ks.map fun k=>((k.e:Int),k.v)) e=(ks.eraseP fun k=>decide ((k.e:Int)=e)).map fun k=>((k.e:Int),k.v)
 | []=>rfl
 | k::t=>by
  by_cases h:(k.e:Int)=e
  ·simp [idel,List.eraseP,h]
  ·simp only [List.map_cons,idel,if_neg h,List.eraseP,decide_eq_false h]
   rw [z_ro e t]
   rfl
def retOut (r:Rg) (e:Int) (v:Value) (Fs:List Fact):Prop:=match r.key e with
 | none=>v= .int .i64 15/\Fs=[rgF r]
 | some _=>v= .int .i64 0/\Fs=[rgF (r.drop e)]
theorem z_xe (w:World) (r:Rg) (e:Int) (hp: ∀k∈r.ks,k.p.length<=1000) (hm:Mem w [rgF r]):Con Tryz.prog z_gE #[ptrR r.b,.int .u64 e] w [rgF r] (retOut r e):=by
 have g:=z_jw w (Un [rgF r])
 have hs0:Sat (z_dg w (Un [rgF r])) Va.z 0 [] [rgF r] w:=hm.sat0 rfl (fun f hf _ k hk=>⟨f,hf,hk⟩)
 refine z_ac (cx:=z_dg w (Un [rgF r])) g z_mv rfl rfl (β:=Va.z) [.c (.v (ptrR r.b)),.c (.v (.int .u64 e))] 0 [] _ rfl rfl hs0 ?_
 refine z_aa [] (fun β w' hs=>key_c w' r e (hs.get 0 rfl) (hs.getLt 0 rfl) hp) ?_
 unfold retOut
 cases hk:r.key e with
 | none=>
  rintro v Fs ⟨rfl,rfl⟩
  intro β w' hs
  exact hs.fin [0] ⟨rfl,rfl⟩
 | some k=>
  rintro v Fs ⟨A,c,rfl,hc,rfl⟩
  refine ⟨.map (some r.m),fun β w' hs=>z_ai (rg_bk (hs.get 1 rfl)) (o:=3) rfl,?_⟩
  refine ⟨[],[rgF (r.drop e)],.c (.v (.tuple #[])),fun β w' ty hs=>?_,trivial,?_⟩
  ·have h1:=(Sat.perm hs [1]).unsep 0 rfl
   obtain ⟨w2,f1,f2⟩:=h1.mapDelI g 2 rfl (t:=z_ar) (tk:=z_aA) e ty _
   refine ⟨w2,f1,?_⟩
   have h3:=f2.fuse [3] (sepF ((r.drop e).ks.map RKey.f)) (fun w hm=>by
    have h:=hm.fact (sepF (r.ks.map RKey.f)) List.mem_cons_self
    have hsl:((r.drop e).ks.map RKey.f).Sublist (r.ks.map RKey.f):=List.eraseP_sublist.map _
    exact ⟨fun f hf=>h.1 f (hsl.subset hf),h.2.sublist hsl⟩) (fun q hq=>by
    have hsl:((r.drop e).ks.map RKey.f).Sublist (r.ks.map RKey.f):=List.eraseP_sublist.map _
    obtain ⟨f,hf,hq⟩:=hq
    exact ⟨sepF (r.ks.map RKey.f),List.mem_cons_self,f,hsl.subset hf,hq⟩)
   have h4:=h3.sep [1,2,3,0] rfl ⟨rfl,rfl,rfl,rfl,trivial⟩
   have e2:rgF (r.drop e)=sepF [bkF r.b z_cH r.vs,browF z_ab r.mA r.master r.mc,mapIF .u64 r.m (idel r.ml e),sepF ((r.drop e).ks.map RKey.f)]:=by
    have e3:idel r.ml e=(r.drop e).ml:=z_ro e r.ks
    rw [e3]
    rfl
   rw [e2]
   exact h4
  ·intro β w' hs
   exact hs.fin [0] ⟨rfl,rfl⟩
end Go.Proofs.YtfomhhkoamapmaaGreatDoor.Sx
namespace Go.Proofs.YtfomhhkoamapmaaGreatDoor.Sx
open Go
structure Pre (B B':Bx.Box):Prop where
 sym:B'.sym=B.sym
 full:B'.full=B.full
 terms: ∃l,B'.L=B.L++l
theorem Pre.refl (B:Bx.Box):Pre B B:=⟨rfl,rfl,[],by simp⟩
theorem z_rI {t:Bx.Term}: ∀ {L:List Bx.Term} {i:Nat} (l:List Bx.Term),Bx.place t L=some i->Bx.place t (L++l)=some i
 | x::r,i,l,h=>by
  simp only [List.cons_append,Bx.place] at h ⊢
  split
  ·rename_i q;rw [if_pos q] at h;exact h
  ·rename_i q
   rw [if_neg q] at h
   obtain ⟨j,hj,rfl⟩:=Option.map_eq_some_iff.1 h
   rw [z_rI l hj]
   rfl
theorem z_qI {t:Bx.Term}: ∀ {L:List Bx.Term},Bx.place t L=none->Bx.place t (L++[t])=some L.length
 | [],_=>by simp [Bx.place]
 | x::r,h=>by
  simp only [List.cons_append,Bx.place] at h ⊢
  split
  ·rename_i q;rw [if_pos q] at h;cases h
  ·rename_i q
   rw [if_neg q] at h
   have h':Bx.place t r=none:=by simpa using h
   rw [z_qI h']
   simp
theorem z_u2 {B:Bx.Box} (hl:B.L.length<4096) (t:Bx.Term):Pre B (B.tag t).2:=by
 unfold Bx.Box.tag
 cases Bx.place t B.L with
 | some i=>exact Pre.refl B
 | none=>
  simp only
  rw [if_neg (by omega)]
  exact ⟨rfl,rfl,[t],rfl⟩
theorem z_vW {B:Bx.Box} (hl:B.L.length<4096) (t:Bx.Term): ∃i,Bx.place t (B.tag t).2.L=some i/\(B.tag t).1=Bx.handle (i+1):=by
 unfold Bx.Box.tag
 cases h:Bx.place t B.L with
 | some i=>exact ⟨i,h,rfl⟩
 | none=>
  simp only
  rw [if_neg (by omega)]
  exact ⟨B.L.length,z_qI h,rfl⟩
theorem z_uE {B B':Bx.Box} (hl:B.L.length<4096) (t:Bx.Term) (h:Pre (B.tag t).2 B'):B'.tag t=((B.tag t).1,B'):=by
 obtain ⟨i,h1,h2⟩:=z_vW hl t
 obtain ⟨l,hl2⟩:=h.terms
 have h3:Bx.place t B'.L=some i:=by rw [hl2];exact z_rI l h1
 rw [h2]
 unfold Bx.Box.tag
 rw [h3]
noncomputable def opB (B:Bx.Box) (t:Bx.Term) (raw:List UInt8):List UInt8×Bx.Box:=if B.sym then B.tag t else (raw,B)
theorem z_zH {B:Bx.Box} (hl:B.L.length<4096) (t:Bx.Term) (raw:List UInt8):Pre B (opB B t raw).2:=by
 unfold opB
 split
 ·exact z_u2 hl t
 ·exact Pre.refl B
theorem z_wU {B B':Bx.Box} (hl:B.L.length<4096) (t:Bx.Term) (raw:List UInt8) (h:Pre (opB B t raw).2 B'):opB B' t raw=((opB B t raw).1,B'):=by
 cases hs:B.sym with
 | true=>
  have e:opB B t raw=B.tag t:=by unfold opB;rw [hs];rfl
  rw [e] at h ⊢
  have hs':B'.sym=true:=by rw [h.sym,(z_u2 hl t).sym,hs]
  unfold opB
  rw [hs',if_pos rfl]
  exact z_uE hl t h
 | false=>
  have e:opB B t raw=(raw,B):=by unfold opB;rw [hs];rfl
  rw [e] at h ⊢
  have hs':B'.sym=false:=by rw [h.sym];exact hs
  unfold opB
  rw [hs']
  rfl
theorem z_vL {B:Bx.Box} (hl:B.L.length<4096) (k t:List UInt8):Pre B (macB B k t).2:=z_zH hl _ _
theorem z_pk {B B':Bx.Box} (hl:B.L.length<4096) (k t:List UInt8) (h:Pre (macB B k t).2 B'):macB B' k t=((macB B k t).1,B'):=z_wU hl _ _ h
structure Kept (r:Rg) (k t:Nat) (k1:List UInt8):Prop where
 ok:RgOk r
 rm:r.room=k
 ep:r.epoch=t+1
 p32: ∀q∈r.ks,q.p.length=32
 lo:t<k-> ∃A c ks,r.ks=⟨1,A,c,k1⟩::ks/\ks.length=t
 hi:k<=t->r.ks.length=k/\ ∀q∈r.ks,1<q.e
 eslo:t<k->r.ks.map (·.e)=List.range' 1 (t+1)
 eshi:k<=t->r.ks.map (·.e)=List.range' (t+2 - k) k
theorem Kept.p {r:Rg} {k t:Nat} {k1:List UInt8} (h:Kept r k t k1): ∀q∈r.ks,q.p.length<=1000:=fun q hq=>by rw [h.p32 q hq];decide
theorem z_xd {b bx:Nat} {mA:Option Addr} {mc:Nat} {master:List UInt8} {room m:Nat} {A:Option Addr} {c:Nat} {p:List UInt8} (h2:master.length<=64) (h3:1<=room) (h4:room<=8) (hp:p.length=32):Kept ((ring0 b bx mA mc master room m).more A c p).cut room 0 p:=by
 have hok:RgOk (ring0 b bx mA mc master room m):=⟨List.Pairwise.nil,fun k hk=>(by cases hk),Nat.zero_le _,h4,h2,by show 0<98;decide⟩
 have e:((ring0 b bx mA mc master room m).more A c p).cut=(ring0 b bx mA mc master room m).more A c p:=by
  unfold Rg.cut
  rw [if_neg]
  show¬room<1
  omega
 refine ⟨z_vH hok (by show 0+1<98;decide),?_,?_,?_,?_,fun h=>absurd h (by omega),fun _=>by rw [e];rfl,fun h=>absurd h (by omega)⟩
 ·rw [e];rfl
 ·rw [e];rfl
 ·rw [e]
  intro q hq
  have hq':q∈[(⟨1,A,c,p⟩:RKey)]:=hq
  obtain rfl:=List.mem_singleton.1 hq'
  exact hp
 ·intro _
  rw [e]
  exact ⟨A,c,[],rfl,rfl⟩
theorem z_to (r:Rg):r.cut.room=r.room:=by unfold Rg.cut;split<;>rfl
theorem z_od (r:Rg):r.cut.epoch=r.epoch:=by unfold Rg.cut;split<;>rfl
theorem z_sR (r:Rg):r.cut.bx=r.bx:=by unfold Rg.cut;split<;>rfl
theorem cut_b (r:Rg):r.cut.b=r.b:=by unfold Rg.cut;split<;>rfl
theorem z_m6 (r:Rg):r.cut.master=r.master:=by unfold Rg.cut;split<;>rfl
theorem z_yy {r:Rg} {q:RKey} (h:q∈r.cut.ks):q∈r.ks:=by
 unfold Rg.cut at h
 split at h
 ·exact List.mem_of_mem_tail h
 ·exact h
theorem z_sN {r:Rg} {e:Int} {q:RKey} (h:q∈(r.drop e).ks):q∈r.ks:=List.mem_of_mem_eraseP h
theorem Kept.key {r:Rg} {k t:Nat} {k1:List UInt8} (h:Kept r k t k1) (hlt:t<k): ∃q,r.key 1=some q/\q.p=k1:=by
 obtain ⟨A,c,ks,e,_⟩:=h.lo hlt
 exact ⟨⟨1,A,c,k1⟩,by unfold Rg.key;rw [e];rfl,rfl⟩
end Go.Proofs.YtfomhhkoamapmaaGreatDoor.Sx
namespace Go.Proofs.YtfomhhkoamapmaaGreatDoor.Sx
open Go
attribute [local irreducible] Calls
theorem z_xx (w:World) (b:Nat) (B:Bx.Box) (y:Lay) (K:Option Addr) (key:List UInt8) (cK:Nat) (b0:Nat) (ps:List Part) (n:Nat) (hn0:ps.length=n) (hts:y.ts.map (·.1)=B.L) (hi:BInv B) (hL:B.L.length<4096) (hk:key.length<=1000000) (h0:ps≠[]) (hl:ps.length<=1000) (hn:(partsT ps).length<=1000000) (hm:Mem w [bxF b B y,partF (some ⟨b0,0,none⟩) ps,bsF K key,oddF 3,firstF 1]):
  Con Tryz.prog z_fC #[ptrB b,.slice K key.length cK,.slice (some ⟨b0,0,none⟩) n n] w [bxF b B y] (outL (bxF b) (macB B key (partsT ps))):=by
 subst hn0
 exact (z_xN w b B y K key cK b0 ps ps.length hts (by omega) hk h0 (Nat.le_refl _) hl hn hm).mono fun v Fs h=>z_sX (z_ev hi hL hk hn).2.1 h
theorem z_vk (w:World) (r:Rg) (B:Bx.Box) (y:Lay) (b0:Nat) (ps:List Part) (n:Nat) (hn0:ps.length=n) (h0:ps≠[]) (hpl:ps.length<=1000) (hp: ∀k∈r.ks,k.p.length<=1000) (hln:(partsT ps).length<=1000000) (hts:y.ts.map (·.1)=B.L) (hi:BInv B) (hL:B.L.length<4000)
  (hm:Mem w [rgF r,bxF r.bx B y,partF (some ⟨b0,0,none⟩) ps,oddF 3,firstF 1]):
  Con Tryz.prog z_eZ #[ptrR r.b,.slice (some ⟨b0,0,none⟩) n n] w [rgF r,bxF r.bx B y] (signOut r B (partsT ps)):=by
 have g:=z_lp w (Un [rgF r,bxF r.bx B y])
 have hs0:Sat (z_ej w (Un [rgF r,bxF r.bx B y])) Va.z 0 [] [rgF r,bxF r.bx B y,partF (some ⟨b0,0,none⟩) ps,oddF 3,firstF 1] w:=hm.sat0 rfl (ownIn (Gs:=[rgF r,bxF r.bx B y]) (fun f hf=>by
  simp only [List.mem_cons,List.not_mem_nil,or_false] at hf
  rcases hf with rfl | rfl | rfl<;>rfl))
 refine z_ac (cx:=z_ej w (Un [rgF r,bxF r.bx B y])) g z_nR rfl rfl (β:=Va.z) [.c (.v (ptrR r.b)),.c (.v (.slice (some ⟨b0,0,none⟩) n n))] 0 [] _ rfl rfl hs0 ?_
 refine z_aa [] (fun β w' hs=>z_sF w' r (hs.get 0 rfl) (hs.getLt 0 rfl) hp) ?_
 unfold newestOut signOut
 cases hk:r.key (r.epoch:Int) with
 | none=>
  rintro v Fs ⟨rfl,rfl⟩
  intro β w' hs
  exact hs.fin [0,1] ⟨rfl,y,hts,rfl⟩
 | some k=>
  have hm2:k∈r.ks:=List.mem_of_find?_eq_some hk
  have hkl:=hp k hm2
  rintro v Fs ⟨A,c,rfl,hc,rfl⟩
  refine ⟨.pointer (some ⟨r.bx,0,none⟩),fun β w' hs=>z_ai (rg_bk (hs.get 1 rfl)) (o:=0) rfl,?_⟩
  refine z_aa [2] (R:=outL (bxF r.bx) (macB B k.p (partsT ps))) (fun β w' hs=>z_xx w' r.bx B y A k.p c b0 ps n hn0 hts hi (by omega) (by omega) h0 hpl hln ((hs.ro 0 rfl).mem.take (js:=[2,3,0,4,5]) rfl)) ?_
  rintro v Fs ⟨A2,c2,y2,rfl,q1,q2,hts2,rfl⟩
  intro β w' hs
  exact hs.fin [0,3,1] ⟨A2,c2,y2,rfl,q1,hts2,rfl⟩ rfl rfl rfl ⟨rfl,rfl,rfl,trivial⟩
theorem z_rC (w:World) (r:Rg) (B:Bx.Box) (y:Lay) (e:Int) (A0:Option Addr) (s:List UInt8) (cs b0:Nat) (ps:List Part) (n:Nat) (hn0:ps.length=n) (h0:ps≠[]) (hpl:ps.length<=1000) (hp: ∀k∈r.ks,k.p.length<=1000) (hln:(partsT ps).length<=1000000) (hts:y.ts.map (·.1)=B.L) (hi:BInv B) (hL:B.L.length<4000)
  (hm:Mem w [rgF r,bxF r.bx B y,partF (some ⟨b0,0,none⟩) ps,bsF A0 s,oddF 3,firstF 1]):
  Con Tryz.prog z_cm #[ptrR r.b,.int .u64 e,.slice A0 s.length cs,.slice (some ⟨b0,0,none⟩) n n] w [rgF r,bxF r.bx B y] (verOut r B e s (partsT ps)):=by
 have g:=z_jR w (Un [rgF r,bxF r.bx B y])
 have hs0:Sat (z_dd w (Un [rgF r,bxF r.bx B y])) Va.z 0 [] [rgF r,bxF r.bx B y,partF (some ⟨b0,0,none⟩) ps,bsF A0 s,oddF 3,firstF 1] w:=hm.sat0 rfl (ownIn (Gs:=[rgF r,bxF r.bx B y]) (fun f hf=>by
  simp only [List.mem_cons,List.not_mem_nil,or_false] at hf
  rcases hf with rfl | rfl | rfl | rfl<;>rfl))
 refine z_ac (cx:=z_dd w (Un [rgF r,bxF r.bx B y])) g z_lY rfl rfl (β:=Va.z) [.c (.v (ptrR r.b)),.c (.v (.int .u64 e)),.c (.v (.slice A0 s.length cs)),.c (.v (.slice (some ⟨b0,0,none⟩) n n))] 0 [] _ rfl rfl hs0 ?_
 refine z_aa [] (fun β w' hs=>key_c w' r e (hs.get 0 rfl) (hs.getLt 0 rfl) hp) ?_
 unfold verOut
 cases hk:r.key e with
 | none=>
  rintro v Fs ⟨rfl,rfl⟩
  intro β w' hs
  exact hs.fin [0,1] ⟨rfl,y,hts,rfl⟩
 | some k=>
  have hm2:k∈r.ks:=List.mem_of_find?_eq_some hk
  have hkl:=hp k hm2
  have hG:=z_ev hi (by omega) (k:=k.p) (t:=partsT ps) (by omega) hln
  rintro v Fs ⟨A,c,rfl,hc,rfl⟩
  refine ⟨.pointer (some ⟨r.bx,0,none⟩),fun β w' hs=>z_ai (rg_bk (hs.get 1 rfl)) (o:=0) rfl,?_⟩
  refine z_aa [2] (R:=outL (bxF r.bx) (macB B k.p (partsT ps))) (fun β w' hs=>z_xx w' r.bx B y A k.p c b0 ps n hn0 hts hi (by omega) (by omega) h0 hpl hln ((hs.ro 0 rfl).mem.take (js:=[2,3,0,5,6]) rfl)) ?_
  rintro v Fs ⟨A2,c2,y2,rfl,q1,q2,hts2,rfl⟩
  have hl32:=hG.2.1
  obtain ⟨bb,hbb⟩: ∃bb,decide ((macB B k.p (partsT ps)).1=s)=bb:=⟨_,rfl⟩
  refine z_ah (v:= .bool bb) (fun β w' hs=>by rw [<-hbb];exact z_yk w' A2 A0 (macB B k.p (partsT ps)).1 s c2 cs (z_aj (hs.get 0 rfl)) (hs.get 5 rfl) (by omega)) ?_
  cases bb with
  | true=>
   have hq:=of_decide_eq_true hbb
   intro β w' hs
   exact hs.fin [3,1] ⟨by rw [if_pos hq];rfl,y2,hts2,rfl⟩
  | false=>
   have hq:=of_decide_eq_false hbb
   intro β w' hs
   exact hs.fin [3,1] ⟨by rw [if_neg hq];rfl,y2,hts2,rfl⟩
theorem z_yR (w:World) (bx:Nat) (r:Rg) (hb:r.bx=bx) (q:RKey) (hk:r.key (r.epoch:Int)=some q) (B:Bx.Box) (y:Lay) (b0:Nat) (ps:List Part) (n:Nat) (hn0:ps.length=n) (h0:ps≠[]) (hpl:ps.length<=1000) (hp: ∀k∈r.ks,k.p.length<=1000) (hln:(partsT ps).length<=1000000) (hts:y.ts.map (·.1)=B.L) (hi:BInv B) (hL:B.L.length<4000)
  (hm:Mem w [rgF r,bxF bx B y,partF (some ⟨b0,0,none⟩) ps,oddF 3,firstF 1]):
  Con Tryz.prog z_eZ #[ptrR r.b,.slice (some ⟨b0,0,none⟩) n n] w [rgF r,bxF bx B y] fun v Fs=> ∃A c y',v= .tuple #[.int .u64 (r.epoch:Int),.slice A (macB B q.p (partsT ps)).1.length c,.int .i64 0]/\(macB B q.p (partsT ps)).1.length<=c/\y'.ts.map (·.1)=(macB B q.p (partsT ps)).2.L/\Fs=[browF z_ab A (macB B q.p (partsT ps)).1 c,rgF r,bxF bx (macB B q.p (partsT ps)).2 y']:=by
 subst hb
 refine (z_vk w r B y b0 ps n hn0 h0 hpl hp hln hts hi hL hm).mono fun v Fs h=>?_
 unfold signOut at h
 rw [hk] at h
 exact h
theorem z_xw (w:World) (bx:Nat) (r:Rg) (hb:r.bx=bx) (e:Int) (q:RKey) (hk:r.key e=some q) (B:Bx.Box) (y:Lay) (A0:Option Addr) (s:List UInt8) (cs b0:Nat) (ps:List Part) (n:Nat) (code:Int) (hn0:ps.length=n) (h0:ps≠[]) (hpl:ps.length<=1000) (hp: ∀k∈r.ks,k.p.length<=1000) (hln:(partsT ps).length<=1000000) (hts:y.ts.map (·.1)=B.L) (hi:BInv B) (hL:B.L.length<4000)
  (hcode:(if (macB B q.p (partsT ps)).1=s then 0 else 13)=code)
  (hm:Mem w [rgF r,bxF bx B y,partF (some ⟨b0,0,none⟩) ps,bsF A0 s,oddF 3,firstF 1]):
  Con Tryz.prog z_cm #[ptrR r.b,.int .u64 e,.slice A0 s.length cs,.slice (some ⟨b0,0,none⟩) n n] w [rgF r,bxF bx B y] fun v Fs=>v= .int .i64 code/\ ∃y',y'.ts.map (·.1)=(macB B q.p (partsT ps)).2.L/\Fs=[rgF r,bxF bx (macB B q.p (partsT ps)).2 y']:=by
 subst hb
 refine (z_rC w r B y e A0 s cs b0 ps n hn0 h0 hpl hp hln hts hi hL hm).mono fun v Fs h=>?_
 unfold verOut at h
 rw [<-hcode]
 rw [hk] at h
 exact h
theorem z_yz (w:World) (bx:Nat) (r:Rg) (hb:r.bx=bx) (e:Int) (hk:r.key e=none) (B:Bx.Box) (y:Lay) (A0:Option Addr) (s:List UInt8) (cs b0:Nat) (ps:List Part) (n:Nat) (hn0:ps.length=n) (h0:ps≠[]) (hpl:ps.length<=1000) (hp: ∀k∈r.ks,k.p.length<=1000) (hln:(partsT ps).length<=1000000) (hts:y.ts.map (·.1)=B.L) (hi:BInv B) (hL:B.L.length<4000)
  (hm:Mem w [rgF r,bxF bx B y,partF (some ⟨b0,0,none⟩) ps,bsF A0 s,oddF 3,firstF 1]):
  Con Tryz.prog z_cm #[ptrR r.b,.int .u64 e,.slice A0 s.length cs,.slice (some ⟨b0,0,none⟩) n n] w [rgF r,bxF bx B y] fun v Fs=>v= .int .i64 15/\ ∃y',y'.ts.map (·.1)=B.L/\Fs=[rgF r,bxF bx B y']:=by
 subst hb
 refine (z_rC w r B y e A0 s cs b0 ps n hn0 h0 hpl hp hln hts hi hL hm).mono fun v Fs h=>?_
 unfold verOut at h
 rw [hk] at h
 exact h
theorem z_c3 (A B:Option Addr) (l m:List UInt8) (c d:Nat):partsT [(A,l,c),(B,m,d)]=l++m:=by simp [partsT]
structure Dk where
 b:Nat
 rb:Nat
 life:Nat
 serial:Nat
 m1:Nat
 m2:Nat
 «to» :MLI
 rv:MLI
def Dk.vs (d:Dk):List Value:=[ptrR d.rb,.int .u64 (d.life:Int),.int .u64 (d.serial:Int),.map (some d.m1),.map (some d.m2)]
def dkF (d:Dk):Fact:=sepF [bkF d.b z_bz d.vs,mapIF .u64 d.m1 d.to,mapIF .u64 d.m2 d.rv]
def ptrD (b:Nat):Value:= .pointer (some ⟨b,0,none⟩)
theorem dk_bk {d:Dk} {w:World} (h:(dkF d).p w):(bkF d.b z_bz d.vs).p w:=h.1 _ (by simp)
theorem dk_to {d:Dk} {w:World} (h:(dkF d).p w):mapIP .u64 d.m1 d.to w:=h.1 (mapIF .u64 d.m1 d.to) (by simp)
theorem dk_rv {d:Dk} {w:World} (h:(dkF d).p w):mapIP .u64 d.m2 d.rv w:=h.1 (mapIF .u64 d.m2 d.rv) (by simp)
theorem z_qN (w:World) (rb life:Nat):Con Tryz.prog z_iA #[ptrR rb,.int .u64 (life:Int)] w [] fun v Fs=>(1<=life/\life<=1099511627776/\ ∃b m1 m2,v= .tuple #[ptrD b,.int .i64 0]/\Fs=[dkF ⟨b,rb,life,0,m1,m2,[],[]⟩])\/(¬(1<=life/\life<=1099511627776)/\v= .tuple #[.pointer none,.int .i64 1]/\Fs=[]):=by
 have g:=z_lw w (Un [])
 refine z_ac (cx:=z_hs w (Un [])) g z_n3 rfl rfl (β:=Va.z) [.c (.v (ptrR rb)),.c (.v (.int .u64 (life:Int)))] 0 [] [] rfl rfl (Sat.start rfl) ?_
 refine BIf.dec (fun h1=>?_) (fun h1=>?_)
 ·have h10:(life:Int)<1:=h1
  intro β w' hs
  exact hs.fin [] (.inr ⟨by omega,rfl,rfl⟩)
 have h10: ¬(life:Int)<1:=h1
 refine BIf.dec (fun h2=>?_) (fun h2=>?_)
 ·have h20:(life:Int)>1099511627776:=h2
  intro β w' hs
  exact hs.fin [] (.inr ⟨by omega,rfl,rfl⟩)
 have h20: ¬(life:Int)>1099511627776:=h2
 intro b1 b2 β w' hs
 have k1:=(((hs.emptyI (kk:= .u64) 0 rfl).emptyI (kk:= .u64) 1 rfl).ofBk).sep [0,2,1] rfl ⟨rfl,rfl,rfl,trivial⟩
 exact k1.fin [0] (.inl ⟨by omega,by omega,β 0,b1,b2,rfl,rfl⟩)
def revD (d:Dk) (s:Int):Int×Dk:=if ilook d.to s=none then (6,d) else if ilook d.rv s=none then (0,{d with rv:=iput d.rv s (.bool true)}) else (10,d)
theorem zeroU64 (w:World):(zeroValue z_aA).run Tryz.prog w= .ok (.int .u64 0) w:=by kernel_rfl
theorem zeroBoo (w:World):(zeroValue z_lH).run Tryz.prog w= .ok (.bool false) w:=by kernel_rfl
theorem z_pD (w:World) (d:Dk) (s:Nat) (hrv: ∀v,ilook d.rv (s:Int)=some v->v= .bool true) (hm:Mem w [dkF d]):Con Tryz.prog z_fa #[ptrD d.b,.int .u64 (s:Int)] w [dkF d] fun v Fs=>v= .int .i64 (revD d s).1/\Fs=[dkF (revD d s).2]:=by
 have g:=z_ij w (Un [dkF d])
 refine z_dN (cx:=z_ez w (Un [dkF d])) g z_k2 [.c (.v (ptrD d.b)),.c (.v (.int .u64 (s:Int)))] [] hm ?_
 refine ⟨.map (some d.m1),fun β w' hs=>z_ai (dk_bk (hs.get 0 rfl)) (o:=3) rfl,?_⟩
 refine ⟨rfl,.int .u64 0,zeroU64,d.to,ilook d.to (s:Int),fun β w' hs=>dk_to (hs.get 0 rfl),rfl,?_⟩
 unfold revD
 cases h1:ilook d.to (s:Int) with
 | none=>
  intro β w' hs
  exact hs.fin [0] ⟨rfl,rfl⟩
 | some v1=>
 refine ⟨.map (some d.m2),fun β w' hs=>z_ai (dk_bk (hs.get 0 rfl)) (o:=4) rfl,?_⟩
 refine ⟨rfl,.bool false,zeroBoo,d.rv,ilook d.rv (s:Int),fun β w' hs=>dk_rv (hs.get 0 rfl),rfl,?_⟩
 cases h2:ilook d.rv (s:Int) with
 | some v2=>
  obtain rfl:=hrv v2 h2
  intro β w' hs
  exact hs.fin [0] ⟨rfl,rfl⟩
 | none=>
 refine ⟨.map (some d.m2),fun β w' hs=>z_ai (dk_bk (hs.get 0 rfl)) (o:=4) rfl,?_⟩
 refine ⟨[],fun _=>[dkF {d with rv:=iput d.rv (s:Int) (.bool true)}],fun β w' hs=>?_,fun _=>?_⟩
 ·obtain ⟨w2,f1,f2⟩:=(hs.unsep 0 rfl).mapPutI g 2 rfl (t:=z_az) (s:Int) (.bool true)
  exact ⟨w2,0,f1,f2.sep [0,1,2] rfl ⟨rfl,rfl,rfl,trivial⟩⟩
 ·intro β w' hs
  exact hs.fin [0] ⟨rfl,rfl⟩
def labL:List UInt8:=[116,105,99,107,101,116,32]
def Tk.v (t:Tk):Value:= .agg t.cells.toArray
noncomputable def openT (ky:Int->Option (List UInt8)) (gone:Int->Bool) (B:Bx.Box) (s:List UInt8) (now:Nat):Tk×Int×Bx.Box:=
 match splitT s with
 | (none,e)=>(tk0,e,B)
 | (some (b,m),_)=>match readT b with
  | none=>(tk0,4,B)
  | some t=>match ky (t.epoch:Int) with
   | none=>(tk0,15,B)
   | some k=>if (macB B k (labL++b)).1=m then (if now<t.fro\/t.til<=now then (tk0,9,(macB B k (labL++b)).2) else if gone (t.serial:Int)=true then (tk0,16,(macB B k (labL++b)).2) else (t,0,(macB B k (labL++b)).2)) else (tk0,13,(macB B k (labL++b)).2)
def Rg.ky (r:Rg) (e:Int):Option (List UInt8):=(r.key e).map (·.p)
def Dk.gone (d:Dk) (s:Int):Bool:=(ilook d.rv s).isSome
def opnOut (r:Rg) (d:Dk) (q:Tk×Int×Bx.Box) (v:Value) (Fs:List Fact):Prop:= ∃y',y'.ts.map (·.1)=q.2.2.L/\v= .tuple #[q.1.v,.int .i64 q.2.1]/\Fs=[dkF d,rgF r,bxF r.bx q.2.2 y']
def z_yu:Plan:= .take 0 (.take 1 (.take 2 (.take 3 (.take 4 (.take 5 (.take 6 (.take 9 (.exec 7 (.exec 8 (.exec 10 (.exec 11 (.take 12 (.done)))))))))))))
theorem z_mk (w:World) (d:Dk) (r:Rg) (B:Bx.Box) (y:Lay) (s:List UInt8) (now:Nat) (hL:s.length<=100000) (hrb:d.rb=r.b) (hp: ∀k∈r.ks,k.p.length<=1000) (hts:y.ts.map (·.1)=B.L) (hi:BInv B) (hBL:B.L.length<4000) (hrv: ∀k v,ilook d.rv k=some v->v= .bool true)
  (hm:Mem w [dkF d,rgF r,bxF r.bx B y,oddF 3,firstF 1,mlF,namF]):
  Con Tryz.prog z_gA #[ptrD d.b,.string (mkS s),.int .u64 (now:Int)] w [dkF d,rgF r,bxF r.bx B y] (opnOut r d (openT r.ky d.gone B s now)):=by
 have g:=z_jx w (Un [dkF d,rgF r,bxF r.bx B y])
 refine z_dN (cx:=z_f8 w (Un [dkF d,rgF r,bxF r.bx B y])) g z_mS [.c (.v (ptrD d.b)),.c (.v (.string (mkS s))),.c (.v (.int .u64 (now:Int)))] [oddF 3,firstF 1,mlF,namF] hm ?_
 refine z_aa [] (fun β w' hs=>z_vq w' s (by omega) (hs.get 5 rfl)) ?_
 unfold openT
 rintro v Fs (⟨b,m,A,c,M,dm,hsp,hbl,hm32,rfl,hc,hdm,rfl⟩ | ⟨e,hsp,he,rfl,rfl⟩)
 rotate_left
 ·rw [hsp]
  have he0: ¬e=0:=by omega
  refine BIf.not (BIf.dec (fun q=>absurd q he0) (fun _=>?_))
  intro β w' hs
  exact (hs.keepB (List.nil_sublist _)).fin [0,1,2] ⟨y,hts,rfl,rfl⟩ rfl rfl rfl ⟨rfl,rfl,rfl,trivial⟩
 rw [hsp]
 refine z_aa [] (fun β w' hs=>z_wt w' A b c hc (z_xD (hs.get 8 rfl)) (z_aj (hs.get 0 rfl))) ?_
 rintro v Fs ⟨⟨t,hrd,hok,rfl⟩ | ⟨hrd,rfl⟩,rfl⟩
 rotate_left
 ·simp only [hrd]
  intro β w' hs
  exact (hs.keepB (List.nil_sublist _)).fin [2,3,4] ⟨y,hts,rfl,rfl⟩ rfl rfl rfl ⟨rfl,rfl,rfl,trivial⟩
 simp only [hrd]
 refine z_af g z_yu (by kernel_rfl) [⟨1,z_an,t.cells.map SL.v⟩,⟨0,z_an,tk0.cells.map SL.v⟩] [dkF d] (subPerm [2]) ?_
 refine ⟨ptrR d.rb,fun β w' hs=>z_ai (dk_bk (hs.get 0 rfl)) (o:=0) rfl,?_⟩
 intro b1
 refine ⟨subPerm [3],?_⟩
 refine ⟨0,labL.map byte,rfl,?_⟩
 refine ⟨subPerm [3],?_⟩
 intro b2
 refine ⟨subPerm [4],?_⟩
 have hkk:r.ky (t.epoch:Int)=(r.key (t.epoch:Int)).map (·.p):=rfl
 rw [hkk]
 have hlb:(labL++b).length<=1000000:=by rw [List.length_append];show 7+_<=_;omega
 cases hk:r.key (t.epoch:Int) with
 | none=>
  refine z_aa [5,6] (fun β w' hs=>by
   have h:=(((hs.rowRd 0 rfl).rowRd 2 rfl).rowRd 3 rfl).part2 (P:=some ⟨b2,0,none⟩) (A:=some ⟨b1,0,none⟩) (l:=labL) (c:=7) (B:=A) (m:=b) (d:=c) [0,1,2] rfl
   have h2:=z_yz w' r.bx r rfl (t.epoch:Int) hk B y M m dm b2 [(some ⟨b1,0,none⟩,labL,7),(A,b,c)] 2 rfl (by simp) (by show 2<=1000;decide) hp (by rw [z_c3];exact hlb) hts hi (by omega) (h.mem.take (js:=[6,7,0,4,8,9]) rfl)
   rw [<-hrb] at h2
   exact h2) ?_
  rintro v Fs ⟨rfl,y2,hy2,rfl⟩
  refine ⟨subPerm [6],?_⟩
  intro β w' hs
  exact (hs.keepB (List.nil_sublist _)).fin [6,0,1] ⟨y2,hy2,rfl,rfl⟩ rfl rfl rfl ⟨rfl,rfl,rfl,trivial⟩
 | some k=>
 have hop:Option.map (fun x:RKey=>x.p) (some k)=some k.p:=rfl
 rw [hop]
 simp only
 by_cases hq:(macB B k.p (labL++b)).1=m
 ·rw [if_pos hq]
  refine z_aa [5,6] (fun β w' hs=>by
   have h:=(((hs.rowRd 0 rfl).rowRd 2 rfl).rowRd 3 rfl).part2 (P:=some ⟨b2,0,none⟩) (A:=some ⟨b1,0,none⟩) (l:=labL) (c:=7) (B:=A) (m:=b) (d:=c) [0,1,2] rfl
   have h2:=z_xw w' r.bx r rfl (t.epoch:Int) k hk B y M m dm b2 [(some ⟨b1,0,none⟩,labL,7),(A,b,c)] 2 0 rfl (by simp) (by show 2<=1000;decide) hp (by rw [z_c3];exact hlb) hts hi (by omega) (by rw [z_c3];exact if_pos hq) (h.mem.take (js:=[6,7,0,4,8,9]) rfl)
   rw [<-hrb,z_c3] at h2
   exact h2) ?_
  rintro v Fs ⟨rfl,y2,hy2,rfl⟩
  refine ⟨subPerm [6],?_⟩
  refine BIf.dec (fun h1=>?_) (fun h1=>?_)
  ·have h10:(now:Int)<(t.fro:Int):=h1
   rw [if_pos (.inl (by omega))]
   intro β w' hs
   exact (hs.keepB (List.nil_sublist _)).fin [6,0,1] ⟨y2,hy2,rfl,rfl⟩ rfl rfl rfl ⟨rfl,rfl,rfl,trivial⟩
  have h10: ¬(now:Int)<(t.fro:Int):=h1
  refine BIf.dec (fun h2=>?_) (fun h2=>?_)
  ·have h20:(now:Int)>=(t.til:Int):=h2
   rw [if_pos (.inr (by omega))]
   intro β w' hs
   exact (hs.keepB (List.nil_sublist _)).fin [6,0,1] ⟨y2,hy2,rfl,rfl⟩ rfl rfl rfl ⟨rfl,rfl,rfl,trivial⟩
  have h20: ¬(now:Int)>=(t.til:Int):=h2
  rw [if_neg (by omega)]
  refine z_af g z_jv (by kernel_rfl) [⟨1,z_an,t.cells.map SL.v⟩,⟨0,z_an,tk0.cells.map SL.v⟩] [dkF d] (subPerm [6]) ?_
  refine ⟨.map (some d.m2),fun β w' hs=>z_ai (dk_bk (hs.get 0 rfl)) (o:=4) rfl,?_⟩
  refine ⟨rfl,.bool false,zeroBoo,d.rv,ilook d.rv (t.serial:Int),fun β w' hs=>dk_rv (hs.get 0 rfl),rfl,?_⟩
  unfold Dk.gone
  cases h3:ilook d.rv (t.serial:Int) with
  | some v2=>
   obtain rfl:=hrv _ v2 h3
   intro β w' hs
   exact (hs.keepB (List.nil_sublist _)).fin [6,0,1] ⟨y2,hy2,rfl,rfl⟩ rfl rfl rfl ⟨rfl,rfl,rfl,trivial⟩
  | none=>
   intro β w' hs
   exact (hs.keepB (List.nil_sublist _)).fin [6,0,1] ⟨y2,hy2,rfl,rfl⟩ rfl rfl rfl ⟨rfl,rfl,rfl,trivial⟩
 ·rw [if_neg hq]
  refine z_aa [5,6] (fun β w' hs=>by
   have h:=(((hs.rowRd 0 rfl).rowRd 2 rfl).rowRd 3 rfl).part2 (P:=some ⟨b2,0,none⟩) (A:=some ⟨b1,0,none⟩) (l:=labL) (c:=7) (B:=A) (m:=b) (d:=c) [0,1,2] rfl
   have h2:=z_xw w' r.bx r rfl (t.epoch:Int) k hk B y M m dm b2 [(some ⟨b1,0,none⟩,labL,7),(A,b,c)] 2 13 rfl (by simp) (by show 2<=1000;decide) hp (by rw [z_c3];exact hlb) hts hi (by omega) (by rw [z_c3];exact if_neg hq) (h.mem.take (js:=[6,7,0,4,8,9]) rfl)
   rw [<-hrb,z_c3] at h2
   exact h2) ?_
  rintro v Fs ⟨rfl,y2,hy2,rfl⟩
  refine ⟨subPerm [6],?_⟩
  intro β w' hs
  exact (hs.keepB (List.nil_sublist _)).fin [6,0,1] ⟨y2,hy2,rfl,rfl⟩ rfl rfl rfl ⟨rfl,rfl,rfl,trivial⟩
def insTri (A:Option Addr) (p:List UInt8) (pre:List (List UInt8)) (x:List UInt8) (args:Array Value) (X:Fact):Prop:= ∃A',args= #[.slice A' x.length x.length]/\X=noF/\Lies A A' p x/\(triL p)[pre.length]?=some x
def triEnd (L:List (List UInt8)) (J Jx:List (List UInt8)->Fact->Prop) (Fs:List Fact):Prop:=
 ∃f Fs',Fs=f::Fs'/\((∃xs,J xs f/\xs=L/\Fs'=[])\/(∃pre,Jx pre f/\Fs'=[]))
theorem z_zP (l:Nat) (w:World) (bs:Nat) (A:Option Addr) (p:List UInt8) (c:Nat) (hc:p.length<=c) (hL:p.length<=1000000) (f0 R:Fact) (J Jx:List (List UInt8)->Fact->Prop) (hJ0:J [] f0) (hJo: ∀pre f,J pre f->f.own=true) (hRo:R.own=false) (hY:Yc Tryz.prog l J Jx R (insTri A p))
  (hm:Mem w (f0::R::[bkF bs z_al [.slice A p.length c]])):
  Con Tryz.prog z_gl #[.func (.yield l) #[] #[],.pointer (some ⟨bs,0,none⟩)] w [f0,bkF bs z_al [.slice A p.length c]] (fun _ Fs=>triEnd (triL p) J Jx Fs):=by
 have g:=z_mz w (Un [f0,bkF bs z_al [.slice A p.length c]]) [bs]
 have hs0:Sat (z_e3 w (Un [f0,bkF bs z_al [.slice A p.length c]]) [bs]) (Va.of fun i=>[bs].getD i 0) 1 [] (f0::R::[bkF bs z_al [.slice A p.length c]]) w:=by
  refine hm.sat rfl (fun f hf ho k hk=>?_) ⟨Nat.le_refl 1,fun i _=>rfl⟩
  simp only [List.mem_cons,List.not_mem_nil,or_false] at hf
  rcases hf with rfl | rfl | rfl
  ·exact ⟨_,by simp,hk⟩
  ·rw [hRo] at ho;cases ho
  ·exact ⟨bkF bs z_al [.slice A p.length c],by simp,hk⟩
 have hs1:=hs0.toBk 2 rfl 0 (by decide) rfl
 refine z_ac (cx:=z_e3 w (Un [f0,bkF bs z_al [.slice A p.length c]]) [bs]) g z_ov rfl rfl (β:=Va.of fun i=>[bs].getD i 0) [.c (.v (.func (.yield l) #[] #[])),.c (.p 0 0)] 1 _ _ rfl rfl hs1 ?_
 refine z_ag (ι:=(List UInt8×Option Addr×Nat)×List (List UInt8)×Fact) 1 (fun i=>[(0,.c (.v (.func (.yield l) #[] #[]))),(1,.c (.p 0 0))]) (fun i=>[⟨0,z_al,[.v (.slice i.1.2.1 i.1.1.length i.1.2.2)]⟩]) (fun i=>[i.2.2,R])
  (fun i=>J i.2.1 i.2.2/\triL p=i.2.1++triL i.1.1/\Lies A i.1.2.1 p i.1.1/\i.1.1.length<=i.1.2.2/\i.1.1.length<=1000000) (fun i=>i.1.1.length) ((p,A,c),[],f0) ⟨hJ0,rfl,Lies.refl A p,hc,hL⟩ (Ent.mk' ⟨rfl,rfl,trivial⟩ rfl (fun β w' hs=>hs)) g ?_
 rintro ⟨⟨r,B,d⟩,pre,f⟩ ⟨hJ,hpre,hin,hrd,hrl⟩
 simp only at hJ hpre hin hrd hrl
 have hfo:=hJo _ _ hJ
 simp only
 by_cases hr:r=[]
 ·subst hr
  rw [show triL []=[] from rfl,List.append_nil] at hpre
  intro β w' hs
  exact (hs.keepB (List.nil_sublist _)).fin [0] ⟨f,_,rfl,.inl ⟨pre,hJ,hpre.symm,rfl⟩⟩ rfl rfl rfl ⟨hfo,trivial⟩
 have hr0:0<r.length:=List.length_pos_iff.2 hr
 obtain ⟨m,hm⟩: ∃m:Nat,m=min r.length 3:=⟨_,rfl⟩
 have hmt:r.take m=r.take 3:=by
  rcases Nat.le_total r.length 3 with h | h
  ·rw [hm,Nat.min_eq_left h,List.take_length,List.take_of_length_le h]
  ·rw [hm,Nat.min_eq_right h]
 have hmd:r.drop m=r.drop 3:=by
  rcases Nat.le_total r.length 3 with h | h
  ·rw [hm,Nat.min_eq_left h,List.drop_length,List.drop_of_length_le h]
  ·rw [hm,Nat.min_eq_right h]
 have hml:(r.take 3).length=m:=by rw [<-hmt,List.length_take];omega
 have hdl:(r.drop 3).length=r.length - m:=by rw [<-hmd,List.length_drop]
 refine BIf.dec (fun _=>?_) (fun h=>absurd (show (0:Int)<(r.length:Int) by omega) h)
 refine ⟨(m:Int),by show min _ _=_;omega,?_⟩
 refine ⟨m,m,0,m,m,B,rfl,rfl,rfl,by omega,by omega,Nat.zero_le _,rfl,rfl,cutZ,?_⟩
 have hLx:(triL p)[pre.length]?=some (r.take 3):=by
  rw [hpre,z_tq hr,List.getElem?_append_right (Nat.le_refl _),Nat.sub_self]
  rfl
 refine z_dF (X:=noF) (x:=r.take 3) hY 0 1 rfl hJ hfo rfl hRo (by decide) (fun β=>⟨B,by rw [hml];rfl,rfl,hin.trans (hmt▸Lies.take B r m),hLx⟩) rfl (fun β w _=>⟨trivial,fun k hk=>hk.elim,fun k _ h=>h.elim⟩) ?_ ?_
 ·intro f2 hfo2 hJ2
  refine ⟨d,r.length,m,r.length - m,d - m,_,rfl,rfl,rfl,by omega,by omega,by omega,rfl,rfl,rfl,?_⟩
  refine ⟨((r.drop 3,cutA B d m 1,d - m),pre++[r.take 3],f2),⟨hJ2,?_,hin.trans (hmd▸Lies.drop hrd (by omega)),by show (r.drop 3).length<=d - m;omega,by show (r.drop 3).length<=_;omega⟩,by show (r.drop 3).length<r.length;omega,?_⟩
  ·show triL p=(pre++[r.take 3])++triL (r.drop 3)
   rw [hpre,z_tq hr,List.append_assoc]
   rfl
  ·simp only [hdl]
   exact Ent.mk' ⟨rfl,rfl,trivial⟩ rfl (fun β w' hs=>hs.perm [0,1])
 ·intro f2 hfo2 hJ2 β w' hs
  exact (hs.keepB (List.nil_sublist _)).fin [0] ⟨f2,_,rfl,.inr ⟨_,hJ2,rfl⟩⟩ rfl rfl rfl ⟨hfo2,trivial⟩
theorem z_uI (w:World) (A:Option Addr) (n c:Nat):Con Tryz.prog z_mF #[.slice A n c] w [] (fun v Fs=> ∃bs,v= .func (.func z_gl) #[] #[.pointer (some ⟨bs,0,none⟩)]/\Fs=[bkF bs z_al [.slice A n c]]):=by
 refine z_ac (cx:=z_k5 w (Un [])) (z_nX w (Un [])) z_qu rfl rfl (β:=Va.z) [.c (.v (.slice A n c))] 0 [] [] rfl rfl (Sat.start rfl) ?_
 intro β w' hs
 exact hs.ofBk.fin [0] ⟨β 0,rfl,rfl⟩
theorem sizeB:(Tryz.prog.info? z_aq).map (·.size)=some 2:=by kernel_rfl
theorem liesB:liesAt Tryz.prog Tryz.prog.depth z_aq (2/Tryz.prog.cellsOf z_aq) 0 z_aq 1=true:=by kernel_rfl
set_option maxHeartbeats 1000000 in
set_option maxRecDepth 100000 in
theorem z_xj (b:Nat) (w:World) (h0:w.cell? ⟨b,0,none⟩=some (.pointer (some ⟨b,0,none⟩))):
  Calls Tryz.prog 132 #[.pointer (some ⟨b,0,none⟩)] w fun e w'=>e= .returned (.tuple #[])/\w'=w:=by
 obtain ⟨j,hj,_⟩:=Option.map_eq_some_iff.1 sizeB
 have t70:=Tryz.underlying168
 go_enter Tryz.func132,Tryz.ntmps132
 go_wp2
 rw [Lib.run_neq_ptr_same w _ t70 hj]
 go_wp2
 go_end0
 exact ⟨rfl,rfl⟩
set_option maxHeartbeats 1000000 in
set_option maxRecDepth 100000 in
theorem z_vB (b:Nat) (w:World) (h0:w.cell? ⟨b,0,none⟩=some (.pointer none)) (hsh:w.shape? b=some (z_aq,2)) (hfz:w.frozen? ⟨b,0,none⟩=false):
  Calls Tryz.prog 132 #[.pointer (some ⟨b,0,none⟩)] w fun e w'=>e= .returned (.tuple #[])/\w'=w.setCell ⟨b,0,none⟩ (.pointer (some ⟨b,0,none⟩)):=by
 obtain ⟨j,hj,hjs⟩:=Option.map_eq_some_iff.1 sizeB
 have t70:=Tryz.underlying168
 have t164:=Tryz.underlying237
 go_enter Tryz.func132,Tryz.ntmps132
 go_wp2
 rw [Lib.run_to_unsafe w ⟨b,0,none⟩ t70 t164 hj (by rw [hjs];decide) hsh (Nat.zero_lt_succ 1)]
 simp only [Result.andThen]
 rw [Oper.upon_value]
 go_wp2
 rw [run_callFunc_extern Tryz.func163 (by kernel_rfl) (by kernel_rfl) (by kernel_rfl) (e:=Extern.AbiNoEscape.same) (by kernel_rfl)]
 rw [Lib.run_noEscape]
 simp only [Result.andThen]
 rw [Oper.upon_value]
 go_wp2
 rw [Lib.run_from_unsafe w ⟨b,0,none⟩ t164 t70 hj hsh liesB]
 simp only [Result.andThen]
 rw [Oper.upon_value]
 go_wp2
 go_end0
 exact ⟨rfl,rfl⟩
theorem z_qJ (w:World) (b:Nat) (p x:Value) (hp:p= .pointer none\/p=selfV b) (h:(bkF b z_aq [p,x]).p w):
  Con Tryz.prog z_fU #[selfV b] w [bkF b z_aq [p,x]] fun v Fs=>v= .tuple #[]/\Fs=[bkF b z_aq [selfV b,x]]:=by
 have hb:w.heap[b]?=some (.cells #[p,x] z_aq (0,0)):=h
 have hlt:b<w.heap.size:=(Array.getElem?_eq_some_iff.1 hb).1
 have h0:w.cell? ⟨b,0,none⟩=some p:=by rw [cell_of_row w b 0 _ _ _ hb];rfl
 rcases hp with rfl | rfl
 ·refine z_km (Calls.mono (z_vB b w h0 (by simp [World.shape?,hb]) (by simp [World.frozen?,hb])) ?_)
  rintro e w' ⟨rfl,rfl⟩
  have h2:=heap_setCell_same w b 0 #[.pointer none,x] z_aq (selfV b) hb
  refine ⟨_,rfl,z_vi (f':=bkF b z_aq [selfV b,x]) ⟨rfl,rfl⟩ ⟨rfl,rfl,rfl,by simp [World.setCell],fun k _ hk=>heap_setCell_other w _ k _ hk⟩ h2 rfl (fun k hk=>⟨hk,?_⟩)⟩
  obtain rfl:k=b:=hk
  simpa [World.setCell] using hlt
 ·refine z_km (Calls.mono (z_xj b w h0) ?_)
  rintro e w' ⟨rfl,rfl⟩
  refine ⟨_,rfl,z_vi (f':=bkF b z_aq [selfV b,x]) ⟨rfl,rfl⟩ (Chg.refl _ _) h rfl (fun k hk=>⟨hk,?_⟩)⟩
  obtain rfl:k=b:=hk
  exact hlt
theorem z_xb (w:World) (b:Nat) (p:Value) (A:Option Addr) (l:List UInt8) (c:Nat) (X:Option Addr) (xs:List UInt8) (cX:Nat) (hp:p= .pointer none\/p=selfV b) (hl:l.length<=10000000) (hx:xs.length<=10000000) (hm:Mem w (bldF b p A l c++[bsF X xs])):
  Con Tryz.prog z_dX #[selfV b,.slice X xs.length cX] w (bldF b p A l c) fun v Fs=>v= .tuple #[.int .i64 (xs.length:Int),.nilIface]/\ ∃A' c',Fs=bldF b (selfV b) A' (l++xs) c':=by
 have g:=z_gv w (Un (bldF b p A l c))
 have hml:=maxLen_eq
 refine z_dN (cx:=z_dv w (Un (bldF b p A l c))) g z_hX [.c (.v (selfV b)),.c (.v (.slice X xs.length cX))] [bsF X xs] hm ?_
 refine z_aa [0] (fun β w' hs=>z_qJ w' b p _ hp (hs.get 0 rfl)) ?_
 rintro v Fs ⟨rfl,rfl⟩
 refine ⟨.slice A l.length c,fun β w' hs=>z_ai (hs.get 0 rfl) (o:=1) rfl,?_⟩
 refine ⟨1,l.length,(l++xs).length,l.map byte,xs.map byte,(l++xs).map byte,rfl,fun β w' hs=>hs.get 2 rfl,z_as xs,by rw [List.length_append],by rw [List.map_append],by rw [List.length_append];omega,by rw [List.length_append];show _*1<=_;omega,?_⟩
 intro A' c' _ _ _
 refine ⟨_,fun β w' hs=>hs.bkSet 0 (o:=1) (us:=[.slice A' (l++xs).length c']) rfl (by show 2<=2;decide) (z_a9 rfl),?_⟩
 intro β w' hs
 exact hs.fin [0,1] ⟨rfl,A',c',rfl⟩
structure BdS where
 v:Value
 A:Option Addr
 l:List UInt8
 c:Nat
theorem z_qY: ∀p:List UInt8,(triL p).length<=p.length
 | []=>Nat.le_refl _
 | [_]=>Nat.le_refl _
 | [_,_]=>by simp [triL]
 | a::b::c::r=>by
  have:=z_qY r
  simp only [triL,List.length_cons]
  omega
structure BdS.Ok (i:BdS) (b:Nat) (url:Bool) (p:List UInt8) (pre:List (List UInt8)):Prop where
 eq:pre=(triL p).take pre.length
 l:i.l=pre.flatMap (b64L url)
 n:i.l.length<=4*pre.length
 v:i.v= .pointer none\/i.v=selfV b
theorem z_xi (w:World) (al:ByteArray) (url:Bool) (hal:AlphE al url) (A:Option Addr) (p:List UInt8) (c:Nat) (h0:p≠[]) (hc:p.length<=c) (hL:p.length<=1000000) (hm:Mem w [bsF A p]):
  Con Tryz.prog z_rL #[.string al,.slice A p.length c,.bool false] w [] fun v Fs=>v= .string (mkS (b64L url p))/\Fs=[]:=by
 have g:=z_q4 w (Un [])
 have hml:=maxLen_eq
 refine z_dN (cx:=z_pF w (Un [])) g z_uD [.c (.v (.string al)),.c (.v (.slice A p.length c)),.c (.v (.bool false))] [bsF A p] hm ?_
 refine z_aa [] (fun β w' hs=>z_uI w' A p.length c) ?_
 rintro v Fs ⟨bs,rfl,rfl⟩
 refine z_hT g 2 (fun _=>[.pointer none,.slice none 0 0]) rfl rfl (fun _=>rfl) (fun b=>?_)
 refine z_ca (α:=List UInt8) (ι:=BdS) (κ:=Unit) g rfl (cv:=[.pointer (some ⟨bs,0,none⟩)]) rfl (by kernel_rfl) 3 (Nat.le_refl 3)
  (fun pre i=>i.Ok b url p pre) (fun i=>[⟨1,z_lH,[.v (.bool false)]⟩,⟨0,z_ak,[.v (.string al)]⟩]) (fun i=>bldF b i.v i.A (i.l) i.c) (fun i=>⟨rfl,rfl,trivial⟩)
  (fun _ _ _=>False) (fun _=>[]) (fun _=>[]) (fun _=>trivial)
  [bkF bs z_al [.slice A p.length c]] [] [bsF A p] ⟨rfl,trivial⟩ (fun g h=>by obtain rfl:=List.mem_singleton.1 h;rfl) ⟨.pointer none,none,[],0⟩ ⟨rfl,rfl,Nat.le_refl _,.inl rfl⟩
  (fun β w hs=>⟨β,Agr.refl _ _,(hs.nilRow z_ab 1).perm [2,1,0,3]⟩) (insTri A p)
  (fun xs Fs'=>xs=triL p/\Fs'=[]) (fun _ Fs'=>Fs'=[])
  (fun l w f0 R J Jx hJ0 hJo hRo hY hm=>z_zP l w bs A p c hc hL f0 R J Jx hJ0 hJo hRo hY hm) ?_ ?_ ?_
 ·rintro ⟨v,A1,l1,c1⟩ pre x args X W S' lb bs' pn pn' hbs hok ⟨A',rfl,rfl,hin,hx⟩
  obtain ⟨q1,q3⟩:=z_v4 p x (List.mem_of_getElem? hx)
  have hv:=hok.v
  have hl1:=hok.l
  have hn1:=hok.n
  have hpl:pre.length<(triL p).length:=(List.getElem?_eq_some_iff.1 hx).1
  have hpc:=z_qY p
  have hxl:(b64L url x).length=(8*x.length+5)/6:=z_fE url x
  simp only at hv hl1 hn1
  refine ⟨_,rfl,?_⟩
  refine z_aa [] (fun β w' hs=>z_wG w' al url hal A' x x.length q1 q3 ((hs.sub 3 rfl rfl (bsF A' x) rfl (hin.rd w' (hs.get 3 rfl)) (fun k hk=>hin.d k hk)).mem.take (js:=[0]) rfl)) ?_
  rintro v2 Fs ⟨A2,c2,rfl,hc2,rfl⟩
  refine z_aa [2,3] (fun β w' hs=>z_xb w' b v A1 l1 c1 A2 (b64L url x) c2 hv (by omega) (by omega) ((hs.rowRd 0 rfl).mem.take (js:=[2,3,0]) rfl)) ?_
  rintro v3 Fs ⟨rfl,A3,c3,rfl⟩
  refine ⟨⟨selfV b,A3,l1++b64L url x,c3⟩,⟨?_,?_,?_,.inr rfl⟩,Ent.mk' trivial rfl (fun β w' hs=>hs.perm [0,1])⟩
  ·rw [List.length_append,List.length_singleton,List.take_add_one,hx,<-hok.eq]
   rfl
  ·show l1++b64L url x=_
   rw [List.flatMap_append,<-hl1]
   simp
  ·show (l1++b64L url x).length<=_
   rw [List.length_append,List.length_append,List.length_singleton]
   omega
 ·rintro xs ⟨v,A1,l1,c1⟩ Fs hok ⟨rfl,rfl⟩
  have hl1:l1=b64L url p:=by rw [z_vy];exact hok.l
  subst hl1
  have hv:=hok.v
  simp only at hv
  have hne:b64L url p≠[]:=fun e=>by
   have h:=z_fE url p
   rw [e] at h
   have:=List.length_pos_iff.2 h0
   simp only [List.length_nil] at h
   omega
  refine z_aa [0,1] (fun β w' hs=>z_zg w' b v A1 (b64L url p) c1 hne (hs.mem.take (js:=[0,1]) rfl)) ?_
  rintro v3 Fs ⟨rfl,rfl⟩
  intro β w' hs
  exact (hs.keepB (List.nil_sublist _)).fin [] ⟨rfl,rfl⟩
 ·rintro e pre j Fs h
  exact h.elim
theorem z_ut:AlphE (mkS [65,66,67,68,69,70,71,72,73,74,75,76,77,78,79,80,81,82,83,84,85,86,87,88,89,90,97,98,99,100,101,102,103,104,105,106,107,108,109,110,111,112,113,114,115,116,117,118,119,120,121,122,48,49,50,51,52,53,54,55,56,57,45,95]) true:=by
 have key: ∀n:_root_.Fin 64,(mkS [65,66,67,68,69,70,71,72,73,74,75,76,77,78,79,80,81,82,83,84,85,86,87,88,89,90,97,98,99,100,101,102,103,104,105,106,107,108,109,110,111,112,113,114,115,116,117,118,119,120,121,122,48,49,50,51,52,53,54,55,56,57,45,95]).data.toList[n.1]?=some (letA true n.1):=by decide+kernel
 exact fun n h=>key ⟨n,h⟩
theorem z_oc (w:World) (A:Option Addr) (p:List UInt8) (c:Nat) (h0:p≠[]) (hc:p.length<=c) (hL:p.length<=1000000) (hm:Mem w [bsF A p]):
  Con Tryz.prog z_kr #[.slice A p.length c] w [] fun v Fs=>v= .string (mkS (encS true p))/\Fs=[]:=by
 have g:=z_mi w (Un [])
 refine z_dN (cx:=z_iy w (Un [])) g z_ot [.c (.v (.slice A p.length c))] [bsF A p] hm ?_
 refine z_aa [] (fun β w' hs=>z_xi w' _ true z_ut A p c h0 hc hL (hs.mem.take (js:=[0]) rfl)) ?_
 rintro v Fs ⟨rfl,rfl⟩
 intro β w' hs
 exact hs.fin [] ⟨rfl,rfl⟩
def tkTxt (t:Tk) (m:List UInt8):List UInt8:=encS true (bodyL t)++46::encS true m
def Dk.more (d:Dk) (t:Tk):Dk:= {d with serial:=d.serial+1,«to» :=iput d.to (t.serial:Int) (.int .u64 (t.til:Int))}
open Classical in
def mntOut (r:Rg) (d:Dk) (B:Bx.Box) (t:Tk) (v:Value) (Fs:List Fact):Prop:=
 (∃k y',t.Right/\r.ky (r.epoch:Int)=some k/\v= .tuple #[.string (mkS (tkTxt t (macB B k (labL++bodyL t)).1)),t.v,.int .i64 0]/\y'.ts.map (·.1)=(macB B k (labL++bodyL t)).2.L/\Fs=[dkF (d.more t),rgF r,bxF r.bx (macB B k (labL++bodyL t)).2 y'])\/
 (∃e y',((¬t.Right/\e=4)\/(t.Right/\r.ky (r.epoch:Int)=none/\e=15))/\v= .tuple #[.string (mkS []),tk0.v,.int .i64 e]/\y'.ts.map (·.1)=B.L/\Fs=[dkF d,rgF r,bxF r.bx B y'])
def Rg.ep (r:Rg):Nat:=match r.key (r.epoch:Int) with | some _=>r.epoch | none=>1
def z_wN:Plan:= .take 0 (.take 1 (.take 2 (.take 3 (.take 4 (.take 5 (.take 6 (.take 7 (.brk 8 .done))))))))
open Classical in
theorem z_qt (w:World) (d:Dk) (r:Rg) (B:Bx.Box) (y:Lay) (ten usr rol:List UInt8) (gen now:Nat) (ht:ten.length<=100000) (hu:usr.length<=100000) (hr:rol.length<=100000) (hg:gen<18446744073709551616) (hnw:now<18446744073709551616) (hrb:d.rb=r.b) (hds:d.serial<=1000000) (hep:r.epoch<18446744073709551616) (hp: ∀k∈r.ks,k.p.length<=1000) (hts:y.ts.map (·.1)=B.L) (hi:BInv B) (hBL:B.L.length<4000)
  (hm:Mem w [dkF d,rgF r,bxF r.bx B y,oddF 3,firstF 1,namF]):
  Con Tryz.prog z_gB #[ptrD d.b,.agg #[.string (mkS ten),.string (mkS usr),.string (mkS rol)],.int .u64 (gen:Int),.int .u64 (now:Int)] w [dkF d,rgF r,bxF r.bx B y] (mntOut r d B ⟨r.ep,d.serial+1,now,addTk now d.life,gen,ten,usr,rol⟩):=by
 have g:=z_ks w (Un [dkF d,rgF r,bxF r.bx B y])
 refine z_cx (cx:=z_fZ w (Un [dkF d,rgF r,bxF r.bx B y])) g z_mJ [.c (.v (ptrD d.b)),.agg [.v (.string (mkS ten)),.v (.string (mkS usr)),.v (.string (mkS rol))],.c (.v (.int .u64 (gen:Int))),.c (.v (.int .u64 (now:Int)))] [oddF 3,firstF 1,namF] hm ?_
 refine z_ae g ?_
 refine z_ae g ?_
 refine z_aM (ι:=Int×Bool) g (fun i=>i=(if (r.key (r.epoch:Int)).isSome then ((r.epoch:Int),true) else (0,false))) 2 (fun i=>[(0,.c (.v (ptrD d.b))),(2,.c (.v (.int .u64 (gen:Int)))),(3,.c (.v (.int .u64 (now:Int)))),(5,.c (.p 0 0)),(9,.c (.p 1 0)),(11,.c (.v (.int .u64 i.1))),(13,.c (.v (.bool i.2)))])
  (fun _=>[⟨1,z_an,tk0.cells.map SL.v⟩,⟨0,z_aF,[.v (.string (mkS ten)),.v (.string (mkS usr)),.v (.string (mkS rol))]⟩]) (fun _=>[dkF d,rgF r,bxF r.bx B y,oddF 3,firstF 1,namF]) ?_ ?_
 rotate_left
 ·refine ⟨ptrR d.rb,fun β w' hs=>z_ai (dk_bk (hs.get 0 rfl)) (o:=0) rfl,?_⟩
  refine z_aa [] (fun β w' hs=>by
   have h:=z_sF w' r (hs.get 1 rfl) (hs.getLt 1 rfl) hp
   rw [<-hrb] at h
   exact h) ?_
  unfold newestOut
  cases hk:r.key (r.epoch:Int) with
  | none=>
   rintro v Fs ⟨rfl,rfl⟩
   exact EntX.of (0,false) (by rfl) (Ent.mk' ⟨rfl,rfl,rfl,rfl,rfl,rfl,rfl,trivial⟩ rfl (fun β w' hs=>hs))
  | some k=>
   rintro v Fs ⟨A,c,rfl,hc,rfl⟩
   exact EntX.of ((r.epoch:Int),true) (by rfl) (Ent.mk' ⟨rfl,rfl,rfl,rfl,rfl,rfl,rfl,trivial⟩ rfl (fun β w' hs=>hs.perm [1,2,3,4,5,6]))
 rintro ⟨e0,b0⟩ he0
 refine z_aM (ι:=Unit) g (fun _=>True) 2 (fun _=>[(0,.c (.v (ptrD d.b))),(2,.c (.v (.int .u64 (gen:Int)))),(3,.c (.v (.int .u64 (now:Int)))),(5,.c (.p 0 0)),(9,.c (.p 1 0)),(11,.c (.v (.int .u64 (r.ep:Int))))])
  (fun _=>[⟨1,z_an,tk0.cells.map SL.v⟩,⟨0,z_aF,[.v (.string (mkS ten)),.v (.string (mkS usr)),.v (.string (mkS rol))]⟩]) (fun _=>[dkF d,rgF r,bxF r.bx B y,oddF 3,firstF 1,namF]) ?_ ?_
 rotate_left
 ·unfold Rg.ep
  cases hk:r.key (r.epoch:Int) with
  | none=>
   rw [hk] at he0
   injection he0 with q1 q2
   subst q1 q2
   exact EntX.of () trivial (Ent.mk' ⟨rfl,rfl,rfl,rfl,rfl,rfl,trivial⟩ rfl (fun β w' hs=>hs))
  | some k=>
   rw [hk] at he0
   injection he0 with q1 q2
   subst q1 q2
   exact EntX.of () trivial (Ent.mk' ⟨rfl,rfl,rfl,rfl,rfl,rfl,trivial⟩ rfl (fun β w' hs=>hs))
 rintro ⟨⟩ -
 refine z_aM (ι:=Unit) g (fun _=>True) 3 (fun _=>[(0,.c (.v (ptrD d.b))),(9,.c (.p 1 0)),(14,.c (.p 2 0))])
  (fun _=>[⟨2,z_an,(Tk.cells ⟨r.ep,d.serial+1,now,addTk now d.life,gen,ten,usr,rol⟩).map SL.v⟩,⟨1,z_an,tk0.cells.map SL.v⟩]) (fun _=>[dkF d,rgF r,bxF r.bx B y,oddF 3,firstF 1,namF]) ?_ ?_
 rotate_left
 ·refine z_af g z_kF (by kernel_rfl) [⟨1,z_an,tk0.cells.map SL.v⟩,⟨0,z_aF,[.v (.string (mkS ten)),.v (.string (mkS usr)),.v (.string (mkS rol))]⟩] [dkF d] (subPerm [0]) ?_
  have hs1:IntKind.u64.wrap ((d.serial:Int)+1)=((d.serial+1:Nat):Int):=by rw [z_c7];omega
  refine ⟨.int .u64 (d.serial:Int),fun β w' hs=>z_ai (dk_bk (hs.get 0 rfl)) (o:=2) rfl,?_⟩
  refine ⟨_,hs1,?_⟩
  refine ⟨.int .u64 (d.life:Int),fun β w' hs=>z_ai (dk_bk (hs.get 0 rfl)) (o:=1) rfl,?_⟩
  have go1: ∀w',Pu Tryz.prog z_nk #[.int .u64 (now:Int),.int .u64 (d.life:Int)] w' (.int .u64 ((addTk now d.life:Nat):Int)):=fun w'=>z_vN w' now d.life
  refine ⟨?_,?_⟩
  ·refine z_ah (fun β w' hs=>go1 w') ?_
   refine ⟨subPerm [0],?_⟩
   refine ⟨Sub.of (List.sublist_cons_self _ _) (List.Sublist.cons_cons _ (List.nil_sublist _)),?_⟩
   refine ⟨Sub.of (List.sublist_cons_self _ _) (List.Sublist.cons_cons _ (List.nil_sublist _)),?_⟩
   exact EntX.of () trivial (Ent.mk' ⟨rfl,rfl,rfl,trivial⟩ rfl (fun β w' hs=>hs.keepB (List.Sublist.cons_cons _ (List.Sublist.cons_cons _ (List.nil_sublist _)))))
  ·refine ⟨Sub.of (List.sublist_cons_self _ _) (List.Sublist.cons_cons _ (List.nil_sublist _)),?_⟩
   refine z_ah (fun β w' hs=>go1 w') ?_
   refine ⟨Sub.of (List.sublist_cons_self _ _) (List.Sublist.cons_cons _ (List.nil_sublist _)),?_⟩
   refine ⟨Sub.of (List.sublist_cons_self _ _) (List.Sublist.cons_cons _ (List.nil_sublist _)),?_⟩
   exact EntX.of () trivial (Ent.mk' ⟨rfl,rfl,rfl,trivial⟩ rfl (fun β w' hs=>hs.keepB (List.Sublist.cons_cons _ (List.Sublist.cons_cons _ (List.nil_sublist _)))))
 rintro ⟨⟩ -
 have hok:(⟨r.ep,d.serial+1,now,addTk now d.life,gen,ten,usr,rol⟩:Tk).Ok:=by
  have h1:r.ep<18446744073709551616:=by unfold Rg.ep;split;exact hep;decide
  have h2:addTk now d.life<18446744073709551616:=by unfold addTk;omega
  exact ⟨h1,by show d.serial+1<_;omega,hnw,h2,hg,ht,hu,hr⟩
 have hse:(⟨r.ep,d.serial+1,now,addTk now d.life,gen,ten,usr,rol⟩:Tk).serial=d.serial+1:=rfl
 generalize (⟨r.ep,d.serial+1,now,addTk now d.life,gen,ten,usr,rol⟩:Tk)=t at *
 refine z_aQ g ?_
 refine z_aa [] (fun β w' hs=>z_wQ w' t (z_xD (hs.get 5 rfl)) hok) ?_
 rintro v Fs (⟨hR,A,c,rfl,hc,rfl⟩ | ⟨hR,rfl,rfl⟩)
 rotate_left
 ·intro β w' hs
  exact (hs.keepB (List.nil_sublist _)).fin [0,1,2] (.inr ⟨4,y,.inl ⟨hR,rfl⟩,rfl,hts,rfl⟩) rfl rfl rfl ⟨rfl,rfl,rfl,trivial⟩
 have l1:=z_bg hR.ten
 have l2:=z_eg hR.usr
 have l3:=z_bg hR.rol
 have hbl:(bodyL t).length<=1000:=by
  unfold bodyL txtL
  simp only [List.length_cons,List.length_append,z_ay]
  omega
 have hlb:(labL++bodyL t).length<=1000000:=by rw [List.length_append];show 7+_<=_;omega
 refine ⟨ptrR d.rb,fun β w' hs=>z_ai (dk_bk (hs.get 1 rfl)) (o:=0) rfl,?_⟩
 intro b1
 refine ⟨0,labL.map byte,rfl,?_⟩
 intro b2
 unfold mntOut Rg.ky
 cases hk:r.key (r.epoch:Int) with
 | none=>
  refine z_aa [4,5] (fun β w' hs=>by
   have h:=(((hs.rowRd 0 rfl).rowRd 2 rfl).part2 (P:=some ⟨b2,0,none⟩) (A:=some ⟨b1,0,none⟩) (l:=labL) (c:=7) (B:=A) (m:=bodyL t) (d:=c) [0,1,2] rfl)
   have h2:=(z_vk w' r B y b2 [(some ⟨b1,0,none⟩,labL,7),(A,bodyL t,c)] 2 rfl (by simp) (by show 2<=1000;decide) hp (by rw [z_c3];exact hlb) hts hi (by omega) (h.mem.take (js:=[5,6,0,7,8]) rfl)).mono (fun v Fs h=>show v= .tuple #[.int .u64 0,.slice none 0 0,.int .i64 15]/\ ∃y',y'.ts.map (·.1)=B.L/\Fs=[rgF r,bxF r.bx B y'] by unfold signOut at h;rw [hk] at h;exact h)
   rw [<-hrb] at h2
   exact h2) ?_
  rintro v Fs ⟨rfl,y2,hy2,rfl⟩
  intro β w' hs
  exact (hs.keepB (List.nil_sublist _)).fin [5,0,1] (.inr ⟨15,y2,.inr ⟨hR,rfl,rfl⟩,rfl,hy2,rfl⟩) rfl rfl rfl ⟨rfl,rfl,rfl,trivial⟩
 | some k=>
  refine z_aa [4,5] (fun β w' hs=>by
   have h:=(((hs.rowRd 0 rfl).rowRd 2 rfl).part2 (P:=some ⟨b2,0,none⟩) (A:=some ⟨b1,0,none⟩) (l:=labL) (c:=7) (B:=A) (m:=bodyL t) (d:=c) [0,1,2] rfl)
   have h2:=z_yR w' r.bx r rfl k hk B y b2 [(some ⟨b1,0,none⟩,labL,7),(A,bodyL t,c)] 2 rfl (by simp) (by show 2<=1000;decide) hp (by rw [z_c3];exact hlb) hts hi (by omega) (h.mem.take (js:=[5,6,0,7,8]) rfl)
   rw [<-hrb,z_c3] at h2
   exact h2) ?_
  rintro v Fs ⟨M,dm,y2,rfl,hdm,hy2,rfl⟩
  have hq32:(macB B k.p (labL++bodyL t)).1.length=32:=(z_ev hi (by omega) (k:=k.p) (t:=labL++bodyL t) (by have:=hp k (List.mem_of_find?_eq_some hk);omega) hlb).2.1
  obtain ⟨q,hq⟩: ∃q,macB B k.p (labL++bodyL t)=q:=⟨_,rfl⟩
  obtain ⟨m,B2⟩:=q
  rw [hq] at hq32 hdm hy2 ⊢
  simp only at hq32 hdm hy2 ⊢
  have hs1:IntKind.u64.wrap ((d.serial:Int)+1)=((d.serial+1:Nat):Int):=by rw [z_c7];omega
  refine ⟨.int .u64 (d.serial:Int),fun β w' hs=>z_ai (dk_bk (hs.get 6 rfl)) (o:=2) rfl,?_⟩
  refine ⟨_,hs1,?_⟩
  refine ⟨[dkF {d with serial:=d.serial+1},browF z_ab M m dm,rgF r,bxF r.bx B2 y2,browF z_ab A (bodyL t) c],fun β w' hs=>by
   obtain ⟨w2,f1,f2⟩:=(hs.unsep 6 rfl).bkSet 0 (o:=2) (us:=[.int .u64 ((d.serial+1:Nat):Int)]) rfl (by show 3<=5;decide) (z_a9 rfl)
   exact ⟨w2,f1,(f2.sep [0,1,2] rfl ⟨rfl,rfl,rfl,trivial⟩).perm [0,1,2,3,6]⟩,?_⟩
  refine z_af g z_wN (by kernel_rfl) [⟨2,z_an,t.cells.map SL.v⟩,⟨1,z_an,tk0.cells.map SL.v⟩] [dkF {d with serial:=d.serial+1}] (subPerm [0]) ?_
  refine ⟨.map (some d.m1),fun β w' hs=>z_ai (dk_bk (hs.get 0 rfl)) (o:=3) rfl,?_⟩
  refine ⟨[⟨2,z_an,t.cells.map SL.v⟩,⟨1,z_an,tk0.cells.map SL.v⟩],fun _=>[dkF (d.more t),browF z_ab M m dm,rgF r,bxF r.bx B2 y2,browF z_ab A (bodyL t) c],fun β w' hs=>?_,fun _=>?_⟩
  ·obtain ⟨w2,f1,f2⟩:=(hs.unsep 0 rfl).mapPutI g 1 rfl (t:=z_av) (t.serial:Int) (.int .u64 (t.til:Int))
   exact ⟨w2,0,f1,(f2.sep [0,1,2] rfl ⟨rfl,rfl,rfl,trivial⟩)⟩
  refine z_af g z_jC (by kernel_rfl) [⟨2,z_an,t.cells.map SL.v⟩] [] (Sub.of (List.Sublist.cons_cons _ (List.nil_sublist _)) (List.nil_sublist _)) ?_
  have hbn:bodyL t≠[]:=by unfold bodyL;simp
  have hmn:m≠[]:=fun e=>by rw [e] at hq32;cases hq32
  refine z_aa [] (fun β w' hs=>z_oc w' A (bodyL t) c hbn hc (by omega) ((hs.rowRd 4 rfl).mem.take (js:=[4]) rfl)) ?_
  rintro v Fs ⟨rfl,rfl⟩
  refine ⟨(Sub.of (List.Sublist.cons_cons _ (List.nil_sublist _)) (List.nil_sublist _)),?_⟩
  have e1:(encS true (bodyL t)).length=(8*(bodyL t).length+5)/6:=z_fE true (bodyL t)
  have e2:(encS true m).length=(8*m.length+5)/6:=z_fE true m
  have hml:=maxLen_eq
  refine ⟨by rw [z_gN];show _+1<=maxLen;omega,?_⟩
  refine z_aa [] (fun β w' hs=>z_oc w' M m dm hmn hdm (by omega) ((hs.rowRd 1 rfl).mem.take (js:=[1]) rfl)) ?_
  rintro v Fs ⟨rfl,rfl⟩
  refine ⟨(Sub.of (List.Sublist.cons_cons _ (List.nil_sublist _)) (List.nil_sublist _)),?_⟩
  have htx:(mkS (encS true (bodyL t))++⟨#[46]⟩:ByteArray)++mkS (encS true m)=mkS (tkTxt t m):=by
   unfold tkTxt
   apply ByteArray.ext
   simp [mkS]
  have hsz:((mkS (encS true (bodyL t))++⟨#[46]⟩:ByteArray)).size+(mkS (encS true m)).size<=maxLen:=by
   rw [ByteArray.size_append,z_gN,z_gN]
   show _+1+_<=maxLen
   omega
  refine ⟨hsz,?_⟩
  refine ⟨(Sub.of (List.Sublist.cons_cons _ (List.nil_sublist _)) (List.nil_sublist _)),?_⟩
  intro β w' hs
  refine (hs.keepB (List.nil_sublist _)).fin [0,2,3] (.inl ⟨k.p,y2,hR,rfl,?_,by rw [hq];exact hy2,by rw [hq];rfl⟩) rfl rfl rfl ⟨rfl,rfl,rfl,trivial⟩
  rw [hq]
  show Value.tuple #[.string ((mkS (encS true (bodyL t))++⟨#[46]⟩:ByteArray)++mkS (encS true m)),t.v,.int .i64 0]=_
  rw [htx]
def digD:ByteArray:=⟨#[48,49,50,51,52,53,54,55,56,57]⟩
theorem z_yb: ∀d:_root_.Fin 10,digD.extract d.1 (d.1+1)=⟨#[UInt8.ofNat (48+d.1)]⟩:=by decide+kernel
theorem z_mZ {n:Nat} (h:n<10):Lib.decDigits n=[UInt8.ofNat (48+n)]:=by rw [Lib.decDigits,dif_pos h]
theorem z_te {n:Nat} (h: ¬n<10):Lib.decDigits n=Lib.decDigits (n/10)++[UInt8.ofNat (48+n%10)]:=by rw [Lib.decDigits,dif_neg h]
theorem z_s2: ∀k n:Nat,n<10^(k+1)->(Lib.decDigits n).length<=k+1
 | 0,n,h=>by rw [z_mZ (by simpa using h)];exact Nat.le_refl _
 | k+1,n,h=>by
  by_cases hn:n<10
  ·rw [z_mZ hn];show 1<=_;omega
  ·rw [z_te hn,List.length_append]
   have:=z_s2 k (n/10) (by rw [Nat.div_lt_iff_lt_mul (by decide)];rw [Nat.pow_succ] at h;exact h)
   show _+1<=_
   omega
theorem z_tX {n:Nat} (h:n<18446744073709551616):(decimS n).size<=20:=z_s2 19 n (Nat.lt_trans h (by decide))
structure DecJ where
 n:Nat
 s:ByteArray
theorem dec_c (w:World) (N:Nat) (hN:N<18446744073709551616):Pu Tryz.prog z_gK #[.int .u64 (N:Int)] w (.string (decimS N)):=by
 have g:=z_js w (Un [])
 have hml:=maxLen_eq
 obtain ⟨x0,hx0⟩: ∃x0:Int,(N:Int)=x0:=⟨_,rfl⟩
 rw [hx0]
 refine z_ac (cx:=z_f0 w (Un [])) g z_lR rfl rfl (β:=Va.z) [.c (.v (.int .u64 x0))] 0 [] [] rfl rfl (Sat.start rfl) ?_
 rw [<-hx0]
 refine z_ag (ι:=DecJ) 0 (fun j=>[(0,.c (.v (.int .u64 (j.n:Int)))),(3,.c (.v (.string j.s)))]) (fun _=>[]) (fun _=>[])
  (fun j=>j.n<18446744073709551616/\Lib.decDigits j.n++j.s.data.toList=Lib.decDigits N) (fun j=>j.n) ⟨N,⟨#[]⟩⟩ ⟨hN,by simp⟩ (Ent.same ⟨rfl,rfl,trivial⟩ rfl) g ?_
 rintro ⟨n,s⟩ ⟨hn,hd⟩
 simp only at hn hd
 have hsz:s.size<=20:=by
  have h1:=z_tX hN
  have h2:(decimS N).size=(Lib.decDigits N).length:=rfl
  rw [h2,<-hd,List.length_append] at h1
  have h3:s.size=s.data.toList.length:=rfl
  omega
 have hd10:n%10<10:=Nat.mod_lt _ (by decide)
 refine ⟨by decide,((n%10:Nat):Int),Int.ofNat_tmod _ _,?_⟩
 refine ⟨by decide,((n%10:Nat):Int),Int.ofNat_tmod _ _,?_⟩
 refine ⟨((n%10+1:Nat):Int),by rw [z_aD];omega,?_⟩
 refine ⟨n%10+1,n%10,rfl,rfl,by show n%10+1<=10;omega,by omega,?_⟩
 have hex:=z_yb ⟨n%10,hd10⟩
 have hex2:(⟨#[48,49,50,51,52,53,54,55,56,57]⟩:ByteArray).extract (n%10) (n%10+1)=⟨#[UInt8.ofNat (48+n%10)]⟩:=hex
 rw [hex2]
 refine ⟨by show 1+s.size<=maxLen;omega,?_⟩
 refine ⟨by decide,((n/10:Nat):Int),by show IntKind.u64.wrap ((n:Int).tdiv 10)=_;rw [z_aD,Int.tdiv_eq_ediv_of_nonneg (by omega)];omega,?_⟩
 refine BIf.dec (fun h0=>?_) (fun h0=>?_)
 ·have h00:((n/10:Nat):Int)=0:=h0
  intro β w' hs
  refine hs.fin [] ⟨?_,rfl⟩
  have h10:n<10:=by omega
  rw [Nat.mod_eq_of_lt h10]
  have e:(⟨#[UInt8.ofNat (48+n)]⟩++s:ByteArray)=decimS N:=by
   apply ByteArray.ext
   apply Array.ext'
   have e1:(decimS N).data.toList=Lib.decDigits N:=rfl
   rw [e1,<-hd,z_mZ h10,ByteArray.data_append]
   simp
  rw [e]
  rfl
 ·have h00: ¬((n/10:Nat):Int)=0:=h0
  refine ⟨⟨n/10,⟨#[UInt8.ofNat (48+n%10)]⟩++s⟩,⟨by show n/10<_;omega,?_⟩,by show n/10<n;omega,Ent.same ⟨rfl,rfl,trivial⟩ rfl⟩
  show Lib.decDigits (n/10)++(⟨#[UInt8.ofNat (48+n%10)]⟩++s:ByteArray).data.toList=_
  rw [<-hd,z_te (n:=n) (by omega),ByteArray.data_append]
  simp
theorem box0i (sym:Bool):BInv ⟨sym,false,[]⟩:=⟨fun _ q=>(by cases q),List.nodup_nil,fun _ q=>(by cases q),fun _=>rfl,Nat.zero_le _⟩
theorem z_qB {e:Nat} (he:e<100):(keyT e).data.toList.length<=10:=by
 have hds:=z_oJ he
 have hks:keyS.size=4:=rfl
 show (keyS++decimS e).size<=10
 rw [ByteArray.size_append]
 omega
theorem z_zL (w:World) (bx:Nat) (B:Bx.Box) (y:Lay) (M:Option Addr) (master:List UInt8) (cM room:Nat) (h1:1<=master.length) (h2:master.length<=64) (h3:1<=room) (h4:room<=8) (hts:y.ts.map (·.1)=B.L) (hi:BInv B) (hL:B.L.length<4000) (hm:Mem w [bxF bx B y,bsF M master,oddF 3,firstF 1]):
  Con Tryz.prog z_ni #[ptrB bx,.slice M master.length cM,.int .i64 (room:Int)] w [bxF bx B y] fun v Fs=> ∃(r:Rg) (y':Lay),v= .tuple #[ptrR r.b,.int .i64 0]/\r.bx=bx/\r.master=master/\Kept r room 0 (macB B master (keyT 1).data.toList).1/\GoodT B (macB B master (keyT 1).data.toList)/\y'.ts.map (·.1)=(macB B master (keyT 1).data.toList).2.L/\
   Fs=[rgF r,bxF bx (macB B master (keyT 1).data.toList).2 y']:=by
 have hg:=z_ev hi (by omega) (k:=master) (t:=(keyT 1).data.toList) (by omega) (Nat.le_trans (z_qB (by decide)) (by decide))
 refine (z_xz w bx B y M master cM room h1 h2 h3 h4 hts hi hL hm).mono fun v Fs h=>?_
 obtain ⟨b,mA,mc,m,A,c,y',rfl,hy,rfl⟩:=h
 exact ⟨_,y',by rw [cut_b];rfl,by rw [z_sR];rfl,by rw [z_m6];rfl,z_xd h2 h3 h4 hg.2.1,hg,hy,rfl⟩
structure RR where
 b:Nat
 bx:Nat
 mA:Option Addr
 mc:Nat
 master:List UInt8
 room:Nat
 LA:Option Addr
 Lc:Nat
 es:List Int
 epoch:Nat
def RR.vs (x:RR):List Value:=[.pointer (some ⟨x.bx,0,none⟩),.slice x.mA x.master.length x.mc,.int .i64 (x.room:Int),.slice x.LA x.es.length x.Lc,.int .u64 (x.epoch:Int)]
def RR.fs (x:RR):List Fact:=[bkF x.b z_a7 x.vs,browF z_ab x.mA x.master x.mc,rdoF 1 x.LA x.es.length (x.es.map (Value.int .u64))]
def rrF (x:RR):Fact:=sepF x.fs
theorem rr_bk {x:RR} {w:World} (h:(rrF x).p w):(bkF x.b z_a7 x.vs).p w:=h.1 _ (by simp [RR.fs])
theorem rr_es {x:RR} {w:World} (h:(rrF x).p w):Rd 1 x.LA x.es.length (x.es.map (Value.int .u64)) w:=h.1 (rdoF 1 x.LA x.es.length (x.es.map (Value.int .u64))) (by simp [RR.fs])
theorem z_xs {x:RR} {W w:World} (h:(rrF x).p W) (hD: ∀k,(rrF x).D k->k<W.heap.size) (ho:(oldF W).p w):(rrF x).p w:=z_eK h hD ho
theorem z_uN (w:World) (x:RR) (e:Int) (hn:x.es.length<=1000) (h:(rrF x).p w) (hl: ∀k,(rrF x).D k->k<w.heap.size):Pu Tryz.prog z_gy #[ptrR x.b,.int .u64 e] w (.bool (decide (e∈x.es))):=by
 have g:=z_ju w (Un [])
 refine z_ac (cx:=z_f1 w (Un [])) g z_mq rfl rfl (β:=Va.z) [.c (.v (ptrR x.b)),.c (.v (.int .u64 e))] 0 [] [oldF w] rfl rfl (z_aS rfl) ?_
 refine ⟨.slice x.LA x.es.length x.Lc,fun β w' hs=>z_ai (rr_bk (z_xs h hl (hs.get 0 rfl))) (o:=3) rfl,?_⟩
 refine z_ag (ι:=Nat) 0 (fun i=>[(1,.c (.v (.int .u64 e))),(10,.c (.v (.slice x.LA x.es.length x.Lc))),(11,.c (.v (.int .i64 (x.es.length:Int)))),(12,.c (.v (.int .i64 (i:Int))))]) (fun _=>[]) (fun _=>[oldF w])
  (fun i=>i<=x.es.length/\e∉x.es.take i) (fun i=>x.es.length - i) 0 ⟨Nat.zero_le _,by simp⟩ (Ent.same ⟨rfl,rfl,rfl,rfl,trivial⟩ rfl) g ?_
 rintro i ⟨hi,hno⟩
 refine BIf.dec (fun hlt=>?_) (fun hge=>?_)
 ·have hlt0:(i:Int)<x.es.length:=hlt
  have hil:i<x.es.length:=by omega
  obtain ⟨y,hy,hym⟩:=at_lt hil
  have h0:=rr_es h
  obtain ⟨ad,hA,_⟩:=h0.2 (by omega)
  refine ⟨ad,i,hA,rfl,hil,.int .u64 y,fun β w' hs=>Rd.cell1 (by have h:=rr_es (z_xs h hl (hs.get 0 rfl));rw [hA] at h;exact h) (by rw [List.getElem?_map,hy];rfl),?_⟩
  refine BIf.dec (fun heq=>?_) (fun hne=>?_)
  ·have heq0:y=e:=heq
   subst heq0
   intro β w' hs
   exact hs.fin [] ⟨by rw [decide_eq_true hym];rfl,rfl⟩
  ·have hne0: ¬y=e:=hne
   refine ⟨((i+1:Nat):Int),by rw [wrap_i64 (by omega) (by omega)];rfl,?_⟩
   refine ⟨i+1,⟨hil,?_⟩,by omega,Ent.same ⟨rfl,rfl,rfl,rfl,trivial⟩ rfl⟩
   rw [List.take_add_one,hy]
   intro q
   rcases List.mem_append.1 q with q | q
   ·exact hno q
   ·exact hne0 (List.mem_singleton.1 q).symm
 ·have hge0: ¬(i:Int)<x.es.length:=hge
  rw [List.take_of_length_le (by omega)] at hno
  intro β w' hs
  exact hs.fin [] ⟨by rw [decide_eq_false hno];rfl,rfl⟩
def outR (x:RR) (r:List UInt8×Bx.Box) (v:Value) (Fs:List Fact):Prop:=
 ∃A c z',v= .slice A r.1.length c/\r.1.length<=c/\z'.ts.map (·.1)=r.2.L/\Fs=[browF z_ab A r.1 c,rbxF x.bx r.2 z',rrF x]
theorem z_xO (w:World) (x:RR) (e:Nat) (he:e<100) (B:Bx.Box) (z:Lay) (hma:x.master.length<=64) (hts:z.ts.map (·.1)=B.L) (hi:BInv B) (hL:B.L.length<4096) (hm:Mem w [rbxF x.bx B z,rrF x,oddF 10]):
  Con Tryz.prog z_g0 #[ptrR x.b,.int .u64 (e:Int)] w [rbxF x.bx B z,rrF x] (outR x (macB B x.master (keyT e).data.toList)):=by
 have g:=z_kl w (Un [rbxF x.bx B z,rrF x])
 have hml:=maxLen_eq
 have hs0:Sat (z_di w (Un [rbxF x.bx B z,rrF x])) Va.z 0 [] [rbxF x.bx B z,rrF x,oddF 10] w:=hm.sat0 rfl (ownIn (Gs:=[rbxF x.bx B z,rrF x]) (fun f hf=>by
  simp only [List.mem_cons,List.not_mem_nil,or_false] at hf
  rcases hf with rfl;rfl))
 obtain ⟨ee,hee⟩: ∃ee:Int,(e:Int)=ee:=⟨_,rfl⟩
 rw [hee]
 refine z_ac (cx:=z_di w (Un [rbxF x.bx B z,rrF x])) g z_mA rfl rfl (β:=Va.z) [.c (.v (ptrR x.b)),.c (.v (.int .u64 ee))] 0 [] _ rfl rfl hs0 ?_
 have hds:=z_oJ he
 have hks:keyS.size=4:=rfl
 have hkl:=z_qB he
 refine z_af g z_kO (by kernel_rfl) [] [rrF x] (subPerm [1]) ?_
 refine ⟨.pointer (some ⟨x.bx,0,none⟩),fun β w' hs=>z_ai (rr_bk (hs.get 0 rfl)) (o:=0) rfl,?_⟩
 refine ⟨.slice x.mA x.master.length x.mc,fun β w' hs=>z_ai (rr_bk (hs.get 0 rfl)) (o:=1) rfl,?_⟩
 refine z_ah (v:= .string (decimS e)) (fun β w' hs=>by rw [<-hee];exact dec_c w' e (by omega)) ?_
 refine ⟨subPerm [1],?_⟩
 refine ⟨by show keyS.size+(decimS e).size<=maxLen;omega,?_⟩
 intro bb cb hcb _
 refine ⟨subPerm [2],?_⟩
 refine z_aa [1] (R:=outL (rbxF x.bx) (macB B x.master (keyT e).data.toList)) (fun β w' hs=>by
  have h:=((hs.unsep 2 rfl).ro 1 rfl).unown 3 rfl
  exact z_ss w' x.bx B z x.mA (some ⟨bb,0,none⟩) x.master (keyT e).data.toList x.mc cb hts hi hL (by omega) (by omega) (h.mem.take (js:=[4,1,3,5]) rfl)) ?_
 rintro v Fs ⟨A,c,y1,rfl,q1,q2,hts1,rfl⟩
 refine ⟨subPerm [3],?_⟩
 intro β w' hs
 exact hs.fin [0,1,3] ⟨A,c,y1,rfl,q1,hts1,rfl⟩ rfl rfl rfl ⟨rfl,rfl,rfl,trivial⟩
def RKy (x:RR) (B:Bx.Box) (e:Int):Option (List UInt8)->Prop
 | none=>e∉x.es
 | some p=>e∈x.es/\p.length=32/\ ∃n:Nat,e=(n:Int)/\n<100/\macB B x.master (keyT n).data.toList=(p,B)
theorem z_xt (w:World) (x:RR) (e:Int) (o:Option (List UInt8)) (B:Bx.Box) (z:Lay) (ho:RKy x B e o) (hn:x.es.length<=1000) (hma:x.master.length<=64) (hts:z.ts.map (·.1)=B.L) (hi:BInv B) (hL:B.L.length<4096) (hm:Mem w [rbxF x.bx B z,rrF x,oddF 10]):
  Con Tryz.prog z_gU #[ptrR x.b,.int .u64 e] w [rbxF x.bx B z,rrF x] fun v Fs=> ∃A c z',v= .slice A (o.getD []).length c/\(o.getD []).length<=c/\z'.ts.map (·.1)=B.L/\Fs=[browF z_ab A (o.getD []) c,rbxF x.bx B z',rrF x]:=by
 have g:=z_jI w (Un [rbxF x.bx B z,rrF x])
 have hs0:Sat (z_dh w (Un [rbxF x.bx B z,rrF x])) Va.z 0 [] [rbxF x.bx B z,rrF x,oddF 10] w:=hm.sat0 rfl (ownIn (Gs:=[rbxF x.bx B z,rrF x]) (fun f hf=>by
  simp only [List.mem_cons,List.not_mem_nil,or_false] at hf
  rcases hf with rfl;rfl))
 refine z_ac (cx:=z_dh w (Un [rbxF x.bx B z,rrF x])) g z_lX rfl rfl (β:=Va.z) [.c (.v (ptrR x.b)),.c (.v (.int .u64 e))] 0 [] _ rfl rfl hs0 ?_
 cases o with
 | none=>
  have hno:e∉x.es:=ho
  refine z_ah (v:= .bool false) (fun β w' hs=>by
   have h:=z_uN w' x e hn (hs.get 1 rfl) (hs.getLt 1 rfl)
   rw [decide_eq_false hno] at h
   exact h) ?_
  intro β w' hs
  exact (hs.nilRow z_ab 1).fin [0,1,2] ⟨none,0,z,rfl,Nat.le_refl _,hts,rfl⟩ rfl rfl rfl ⟨rfl,rfl,rfl,trivial⟩
 | some p=>
  obtain ⟨hin,hp,n,rfl,hn100,hmac⟩:=ho
  refine z_ah (v:= .bool true) (fun β w' hs=>by
   have h:=z_uN w' x (n:Int) hn (hs.get 1 rfl) (hs.getLt 1 rfl)
   rw [decide_eq_true hin] at h
   exact h) ?_
  refine z_aa [0,1] (fun β w' hs=>z_xO w' x n hn100 B z hma hts hi hL (hs.mem.take (js:=[0,1,2]) rfl)) ?_
  rintro v Fs ⟨A,c,z',rfl,q1,q2,rfl⟩
  rw [hmac] at q1 q2 ⊢
  intro β w' hs
  exact hs.fin [0,1,2] ⟨A,c,z',rfl,q1,q2,rfl⟩ rfl rfl rfl ⟨rfl,rfl,rfl,trivial⟩
def rsgOut (x:RR) (B:Bx.Box) (o:Option (List UInt8)) (l:List UInt8) (v:Value) (Fs:List Fact):Prop:=match o with
 | none=> ∃z',v= .tuple #[.int .u64 0,.slice none 0 0,.int .i64 15]/\z'.ts.map (·.1)=B.L/\Fs=[browF z_ab none [] 0,rbxF x.bx B z',rrF x]
 | some p=> ∃A c z',v= .tuple #[.int .u64 (x.epoch:Int),.slice A (macB B p l).1.length c,.int .i64 0]/\(macB B p l).1.length<=c/\z'.ts.map (·.1)=(macB B p l).2.L/\Fs=[browF z_ab A (macB B p l).1 c,rbxF x.bx (macB B p l).2 z',rrF x]
theorem z_yr (w:World) (x:RR) (o:Option (List UInt8)) (B:Bx.Box) (z:Lay) (P:Option Addr) (l:List UInt8) (cP:Nat) (ho:RKy x B (x.epoch:Int) o) (hn:x.es.length<=1000) (hma:x.master.length<=64) (hln:l.length<=1000000) (hts:z.ts.map (·.1)=B.L) (hi:BInv B) (hL:B.L.length<4096) (hm:Mem w [rbxF x.bx B z,rrF x,bsF P l,oddF 10]):
  Con Tryz.prog z_f6 #[ptrR x.b,.slice P l.length cP] w [rbxF x.bx B z,rrF x] (rsgOut x B o l):=by
 have g:=z_i9 w (Un [rbxF x.bx B z,rrF x])
 have hs0:Sat (z_cQ w (Un [rbxF x.bx B z,rrF x])) Va.z 0 [] [rbxF x.bx B z,rrF x,bsF P l,oddF 10] w:=hm.sat0 rfl (ownIn (Gs:=[rbxF x.bx B z,rrF x]) (fun f hf=>by
  simp only [List.mem_cons,List.not_mem_nil,or_false] at hf
  rcases hf with rfl | rfl<;>rfl))
 refine z_ac (cx:=z_cQ w (Un [rbxF x.bx B z,rrF x])) g z_lx rfl rfl (β:=Va.z) [.c (.v (ptrR x.b)),.c (.v (.slice P l.length cP))] 0 [] _ rfl rfl hs0 ?_
 obtain ⟨ep,hep⟩: ∃ep:Int,(x.epoch:Int)=ep:=⟨_,rfl⟩
 rw [hep] at ho
 refine ⟨.int .u64 ep,fun β w' hs=>by rw [<-hep];exact z_ai (rr_bk (hs.get 1 rfl)) (o:=4) rfl,?_⟩
 refine z_aa [0,1] (fun β w' hs=>z_xt w' x ep o B z ho hn hma hts hi hL (hs.mem.take (js:=[0,1,3]) rfl)) ?_
 rintro v Fs ⟨A,c,z',rfl,q1,hz1,rfl⟩
 cases o with
 | none=>
  intro β w' hs
  exact (hs.nilRow z_ab 1).fin [0,2,3] ⟨z',rfl,hz1,rfl⟩ rfl rfl rfl ⟨rfl,rfl,rfl,trivial⟩
 | some p=>
  obtain ⟨_,hp,_⟩:=ho
  have hne: ¬(p.length:Int)=0:=by omega
  refine BIf.dec (fun h=>absurd h hne) (fun _=>?_)
  refine z_af g z_j7 (by kernel_rfl) [] [rrF x] (subPerm [2]) ?_
  refine ⟨.int .u64 ep,fun β w' hs=>by rw [<-hep];exact z_ai (rr_bk (hs.get 0 rfl)) (o:=4) rfl,?_⟩
  refine ⟨.pointer (some ⟨x.bx,0,none⟩),fun β w' hs=>z_ai (rr_bk (hs.get 0 rfl)) (o:=0) rfl,?_⟩
  refine z_aa [1] (R:=outL (rbxF x.bx) (macB B p l)) (fun β w' hs=>z_ss w' x.bx B z' A P p l c cP hz1 hi hL (by omega) hln ((hs.ro 0 rfl).mem.take (js:=[1,0,3,4]) rfl)) ?_
  rintro v Fs ⟨A2,c2,y1,rfl,q3,q4,hts1,rfl⟩
  refine ⟨subPerm [3],?_⟩
  intro β w' hs
  exact hs.fin [0,1,3] ⟨A2,c2,y1,by rw [hep];rfl,q3,hts1,rfl⟩ rfl rfl rfl ⟨rfl,rfl,rfl,trivial⟩
def rvrOut (x:RR) (B:Bx.Box) (o:Option (List UInt8)) (s l:List UInt8) (v:Value) (Fs:List Fact):Prop:=match o with
 | none=> ∃z',v= .int .i64 15/\z'.ts.map (·.1)=B.L/\Fs=[rbxF x.bx B z',rrF x]
 | some p=> ∃z',v= .int .i64 (if (macB B p l).1=s then 0 else 13)/\z'.ts.map (·.1)=(macB B p l).2.L/\Fs=[rbxF x.bx (macB B p l).2 z',rrF x]
theorem z_v3 (w:World) (x:RR) (e:Int) (o:Option (List UInt8)) (B:Bx.Box) (z:Lay) (S:Option Addr) (s:List UInt8) (cS:Nat) (P:Option Addr) (l:List UInt8) (cP:Nat) (ho:RKy x B e o) (hn:x.es.length<=1000) (hma:x.master.length<=64) (hln:l.length<=1000000) (hts:z.ts.map (·.1)=B.L) (hi:BInv B) (hL:B.L.length<4096) (hm:Mem w [rbxF x.bx B z,rrF x,bsF S s,bsF P l,oddF 10]):
  Con Tryz.prog z_cI #[ptrR x.b,.int .u64 e,.slice S s.length cS,.slice P l.length cP] w [rbxF x.bx B z,rrF x] (rvrOut x B o s l):=by
 have g:=z_hD w (Un [rbxF x.bx B z,rrF x])
 have hs0:Sat (z_ch w (Un [rbxF x.bx B z,rrF x])) Va.z 0 [] [rbxF x.bx B z,rrF x,bsF S s,bsF P l,oddF 10] w:=hm.sat0 rfl (ownIn (Gs:=[rbxF x.bx B z,rrF x]) (fun f hf=>by
  simp only [List.mem_cons,List.not_mem_nil,or_false] at hf
  rcases hf with rfl | rfl | rfl<;>rfl))
 refine z_ac (cx:=z_ch w (Un [rbxF x.bx B z,rrF x])) g z_jz rfl rfl (β:=Va.z) [.c (.v (ptrR x.b)),.c (.v (.int .u64 e)),.c (.v (.slice S s.length cS)),.c (.v (.slice P l.length cP))] 0 [] _ rfl rfl hs0 ?_
 refine z_aa [0,1] (fun β w' hs=>z_xt w' x e o B z ho hn hma hts hi hL (hs.mem.take (js:=[0,1,4]) rfl)) ?_
 rintro v Fs ⟨A,c,z',rfl,q1,hz1,rfl⟩
 cases o with
 | none=>
  intro β w' hs
  exact hs.fin [1,2] ⟨z',rfl,hz1,rfl⟩
 | some p=>
  obtain ⟨_,hp,_⟩:=ho
  have hne: ¬(p.length:Int)=0:=by omega
  refine BIf.dec (fun h=>absurd h hne) (fun _=>?_)
  refine ⟨.pointer (some ⟨x.bx,0,none⟩),fun β w' hs=>z_ai (rr_bk (hs.get 2 rfl)) (o:=0) rfl,?_⟩
  refine z_aa [1] (R:=outL (rbxF x.bx) (macB B p l)) (fun β w' hs=>z_ss w' x.bx B z' A P p l c cP hz1 hi hL (by omega) hln ((hs.ro 0 rfl).mem.take (js:=[1,0,4,5]) rfl)) ?_
  rintro v Fs ⟨A2,c2,y1,rfl,q3,q4,hts1,rfl⟩
  obtain ⟨bb,hbb⟩: ∃bb,decide ((macB B p l).1=s)=bb:=⟨_,rfl⟩
  refine z_ah (v:= .bool bb) (fun β w' hs=>by rw [<-hbb];exact pu_of (z_ra w' A2 S (macB B p l).1 s c2 cS (z_aj (hs.get 0 rfl)) (hs.get 4 rfl))) ?_
  cases bb with
  | true=>
   have hq:=of_decide_eq_true hbb
   intro β w' hs
   exact hs.fin [1,3] ⟨y1,by rw [if_pos hq];rfl,hts1,rfl⟩
  | false=>
   have hq:=of_decide_eq_false hbb
   intro β w' hs
   exact hs.fin [1,3] ⟨y1,by rw [if_neg hq];rfl,hts1,rfl⟩
end Go.Proofs.YtfomhhkoamapmaaGreatDoor.Sx
namespace Go.Proofs.YtfomhhkoamapmaaGreatDoor.Sx
open Go
attribute [local irreducible] Calls
theorem Rd.cutV {w:World} {A:Option Addr} {xs:List Value} {n:Nat} (h:Rd 1 A n xs w) {m i j:Nat} (hm:j<=m) (hij:i<=j) (hj:j<=n):Rd 1 (cutA A m i 1) (j - i) ((xs.drop i).take (j - i)) w:=by
 have hl:=h.1
 rw [Nat.mul_one] at hl
 refine ⟨by rw [List.length_take,List.length_drop];omega,fun hp=>?_⟩
 obtain ⟨ad,rfl,hc⟩:=h.2 (by omega)
 have hne: ¬m=i:=by omega
 refine ⟨ad.add (i*1),by simp [cutA,hne],fun k u hk=>?_⟩
 rw [z_mu,Nat.mul_one]
 refine hc (i+k) u ?_
 rw [<-hk]
 have hkl:k<j - i:=by
  have:=(List.getElem?_eq_some_iff.1 hk).1
  rw [List.length_take] at this
  omega
 rw [List.getElem?_take,if_pos hkl,List.getElem?_drop]
theorem z_zM {A:Option Addr} {c i k n m:Nat} {xs ys:List Value} (hm:m<=n) (h:(rdF 1 (cutA A c i 1) m ys).D k):(rdF 1 A n xs).D k:=by
 obtain ⟨h0,ad,hA,rfl⟩:=h
 have h0':0<m*1:=h0
 unfold cutA at hA
 split at hA
 ·exact ⟨by show 0<n*1;omega,ad,hA,rfl⟩
 ·cases A with
  | none=>cases hA
  | some a=>
   have hA':a.add (i*1)=ad:=by simpa using hA
   exact ⟨by show 0<n*1;omega,a,rfl,by rw [<-hA'];unfold Addr.add;split<;>rfl⟩
section
variable {cx:Cx} {β:Va} {n:Nat} {H:List Bk} {w:World} {f1 f2:Fact}
theorem Sat.rowRdo {F:List Fact} (h:Sat cx β n H F w) (j:Nat) {e size k c:Nat} {A:Option Addr} {xs:List Value} (hj:nth F j=some (rowF e size (.slice A k c) k xs)):Sat cx β n H (putAt F j (rdoF size A k xs)) w:=
 h.upd hj rfl (Chg.refl _ _) (z_aj (h.get j hj)) (fun _ hq=> .inl (row_D hq))
theorem Sat.setL {x:RR} {A:Option Addr} {l:List Int} {c:Nat} (h:Sat cx β n H [rrF x,urowF A l c,f1,f2] w): ∃w',(storeCells ((⟨x.b,0,none⟩:Addr).add 3) [.slice A l.length c] 0).run cx.P w= .ok () w'/\Sat cx β n H [rrF {x with LA:=A,Lc:=c,es:=l},f1,f2] w':=by
 have h1:=h.unsep 0 rfl
 have h2:Sat cx β n H [bkF x.b z_a7 x.vs,browF z_ab x.mA x.master x.mc,rdoF 1 x.LA x.es.length (x.es.map (Value.int .u64)),urowF A l c,f1,f2] w:=h1
 obtain ⟨w2,e1,e2⟩:=h2.bkSet 0 (o:=3) (us:=[.slice A l.length c]) rfl (by show 4<=5;decide) (z_a9 rfl)
 refine ⟨w2,e1,?_⟩
 have h3:=(e2.rowRdo 3 rfl).sep [0,1,3] rfl ⟨rfl,rfl,rfl,trivial⟩
 exact h3.perm [0,2,3]
theorem Sat.cutL {x:RR} (h:Sat cx β n H [rrF x,f1,f2] w) (hc:x.es.length<=x.Lc) (h0:0<x.es.length): ∃w',(storeCells ((⟨x.b,0,none⟩:Addr).add 3) [.slice (cutA x.LA x.Lc 1 1) (x.es.length - 1) (x.Lc - 1)] 0).run cx.P w= .ok () w'/\Sat cx β n H [rrF {x with LA:=cutA x.LA x.Lc 1 1,Lc:=x.Lc - 1,es:=x.es.tail},f1,f2] w':=by
 have h1:=h.unsep 0 rfl
 have h2:Sat cx β n H [bkF x.b z_a7 x.vs,browF z_ab x.mA x.master x.mc,rdoF 1 x.LA x.es.length (x.es.map (Value.int .u64)),f1,f2] w:=h1
 obtain ⟨w2,e1,e2⟩:=h2.bkSet 0 (o:=3) (us:=[.slice (cutA x.LA x.Lc 1 1) (x.es.length - 1) (x.Lc - 1)]) rfl (by show 4<=5;decide) (z_a9 rfl)
 refine ⟨w2,e1,?_⟩
 have hl:x.es.tail.length=x.es.length - 1:=List.length_tail
 have e3:=e2.upd (j:=2) (f':=rdoF 1 (cutA x.LA x.Lc 1 1) x.es.tail.length (x.es.tail.map (Value.int .u64))) rfl rfl (Chg.refl _ _) (by
  have h4:Rd 1 x.LA x.es.length (x.es.map (Value.int .u64)) w2:=e2.get 2 rfl
  have h5:=h4.cutV (m:=x.Lc) (i:=1) (j:=x.es.length) hc h0 (Nat.le_refl _)
  rw [List.take_of_length_le (by simp)] at h5
  show Rd 1 _ x.es.tail.length (x.es.tail.map (Value.int .u64)) w2
  rw [hl,List.map_tail,<-List.drop_one]
  exact h5) (fun _ hq=> .inl (z_zM (xs:=x.es.map (Value.int .u64)) (ys:=x.es.tail.map (Value.int .u64)) (by rw [hl];omega) hq))
 have h6:=e3.sep [0,1,2] rfl ⟨rfl,rfl,rfl,trivial⟩
 have e:rrF {x with LA:=cutA x.LA x.Lc 1 1,Lc:=x.Lc - 1,es:=x.es.tail}=sepF [bkF x.b z_a7 (putAll x.vs 3 [.slice (cutA x.LA x.Lc 1 1) (x.es.length - 1) (x.Lc - 1)]),browF z_ab x.mA x.master x.mc,rdoF 1 (cutA x.LA x.Lc 1 1) x.es.tail.length (x.es.tail.map (Value.int .u64))]:=by
  rw [<-hl]
  rfl
 rw [e]
 exact h6
end
def RR.more (x:RR):RR:= {x with epoch:=x.epoch+1}
def moreL (es:List Int) (e:Int) (room:Nat):List Int:=if room<(es++[e]).length then (es++[e]).tail else es++[e]
def rotOut (x:RR) (B:Bx.Box) (v:Value) (Fs:List Fact):Prop:=
 ∃(x':RR) (z':Lay),v= .int .u64 ((x.epoch+1:Nat):Int)/\x'.b=x.b/\x'.bx=x.bx/\x'.master=x.master/\x'.room=x.room/\x'.epoch=x.epoch+1/\x'.es=moreL x.es ((x.epoch+1:Nat):Int) x.room/\x'.es.length<=x'.Lc/\z'.ts.map (·.1)=(macB B x.master (keyT (x.epoch+1)).data.toList).2.L/\
  Fs=[rbxF x.bx (macB B x.master (keyT (x.epoch+1)).data.toList).2 z',rrF x']
theorem z_xu (w:World) (x:RR) (B:Bx.Box) (z:Lay) (hep:x.epoch<98) (hn:x.es.length<=1000) (hma:x.master.length<=64) (hts:z.ts.map (·.1)=B.L) (hi:BInv B) (hL:B.L.length<4096) (hm:Mem w [rbxF x.bx B z,rrF x,oddF 10]):
  Con Tryz.prog z_eE #[ptrR x.b] w [rbxF x.bx B z,rrF x] (rotOut x B):=by
 have g:=z_hn w (Un [rbxF x.bx B z,rrF x])
 have hml:=maxLen_eq
 have hs0:Sat (z_ck w (Un [rbxF x.bx B z,rrF x])) Va.z 0 [] [rbxF x.bx B z,rrF x,oddF 10] w:=hm.sat0 rfl (ownIn (Gs:=[rbxF x.bx B z,rrF x]) (fun f hf=>by
  simp only [List.mem_cons,List.not_mem_nil,or_false] at hf
  rcases hf with rfl;rfl))
 refine z_ac (cx:=z_ck w (Un [rbxF x.bx B z,rrF x])) g z_jG rfl rfl (β:=Va.z) [.c (.v (ptrR x.b))] 0 [] _ rfl rfl hs0 ?_
 obtain ⟨e0,he0⟩: ∃e0:Int,(x.epoch:Int)=e0:=⟨_,rfl⟩
 obtain ⟨e1,he1⟩: ∃e1:Int,((x.epoch+1:Nat):Int)=e1:=⟨_,rfl⟩
 refine ⟨.int .u64 e0,fun β w' hs=>by rw [<-he0];exact z_ai (rr_bk (hs.get 1 rfl)) (o:=4) rfl,?_⟩
 refine ⟨e1,by rw [z_aD];omega,?_⟩
 refine ⟨[rrF x.more,rbxF x.bx B z,oddF 10],fun β w' hs=>by
  have h1:=hs.unsep 1 rfl
  obtain ⟨w2,q1,q2⟩:=h1.bkSet 0 (o:=4) (us:=[.int .u64 e1]) rfl (by show 5<=5;decide) (z_a9 rfl)
  refine ⟨w2,q1,?_⟩
  have h2:=q2.sep [0,1,2] rfl ⟨rfl,rfl,rfl,trivial⟩
  rw [<-he1] at h2
  exact h2,?_⟩
 refine ⟨.int .u64 e1,fun β w' hs=>by rw [<-he1];exact z_ai (rr_bk (hs.get 0 rfl)) (o:=4) rfl,?_⟩
 refine z_aa [1,0] (R:=outR x.more (macB B x.master (keyT (x.epoch+1)).data.toList)) (fun β w' hs=>by rw [<-he1];exact z_xO w' x.more (x.epoch+1) (by omega) B z hma hts hi hL (hs.mem.take (js:=[1,0,2]) rfl)) ?_
 rintro v Fs ⟨A0,c0,z1,rfl,q1,hz1,rfl⟩
 obtain ⟨⟨kp,kB⟩,hkk⟩: ∃q,macB B x.master (keyT (x.epoch+1)).data.toList=q:=⟨_,rfl⟩
 rw [hkk] at hz1 q1 ⊢
 simp only at hz1 q1 ⊢
 obtain ⟨l2,hl2,hv2,hl2e⟩: ∃l2:List Int,l2.length=x.es.length+1/\x.es.map (Value.int .u64)++[.int .u64 e1]=l2.map (Value.int .u64)/\x.es++[((x.epoch+1:Nat):Int)]=l2:=⟨_,by rw [List.length_append];rfl,by rw [List.map_append,he1];rfl,rfl⟩
 have hone: ∀u∈x.es.map (Value.int .u64),u.oneCell'=true:=fun u hu=>by
  obtain ⟨y,_,rfl⟩:=List.mem_map.1 hu
  rfl
 obtain ⟨rm,hrm⟩: ∃rm:Int,(x.room:Int)=rm:=⟨_,rfl⟩
 refine z_af g z_io (by kernel_rfl) [] [rrF x.more] (subPerm [2]) ?_
 refine ⟨.slice x.LA x.es.length x.Lc,fun β w' hs=>z_ai (rr_bk (hs.get 0 rfl)) (o:=3) rfl,?_⟩
 refine ⟨.int .u64 e1,fun β w' hs=>by rw [<-he1];exact z_ai (rr_bk (hs.get 0 rfl)) (o:=4) rfl,?_⟩
 refine ⟨?_,?_⟩
 ·intro b1
  refine ⟨subPerm [3],?_⟩
  refine ⟨?_,?_⟩
  ·refine ⟨0,0,x.es.length,[],x.es.map (Value.int .u64),x.es.map (Value.int .u64),rfl,fun β w' hs=>rr_es (x:=x.more) (hs.get 3 rfl),hone,Nat.zero_add _,rfl,by omega,by show x.es.length*8<=_;omega,?_⟩
   intro A1 c1 p1 p2 p3
   refine ⟨subPerm [3],?_⟩
   intro b2
   refine ⟨subPerm [4],?_⟩
   refine ⟨1,x.es.length,l2.length,x.es.map (Value.int .u64),[.int .u64 e1],l2.map (Value.int .u64),rfl,fun β w' hs=>z_aj (hs.get 0 rfl),z_a9 rfl,hl2.symm,hv2,by omega,by show l2.length*8<=_;omega,?_⟩
   intro A2 c2 hc2 p5 p6
   refine ⟨subPerm [4],?_⟩
   refine ⟨subPerm [4],?_⟩
   refine ⟨[rrF {x.more with LA:=A2,Lc:=c2,es:=l2},rbxF x.bx kB z1,oddF 10],fun β w' hs=>(hs.perm [4,1,3,5]).setL,?_⟩
   refine z_af g z_bZ (by kernel_rfl) [] [rrF {x.more with LA:=A2,Lc:=c2,es:=l2}] (subPerm [0]) ?_
   refine ⟨.slice A2 l2.length c2,fun β w' hs=>z_ai (rr_bk (hs.get 0 rfl)) (o:=3) rfl,?_⟩
   refine ⟨.int .i64 rm,fun β w' hs=>by rw [<-hrm];exact z_ai (rr_bk (hs.get 0 rfl)) (o:=2) rfl,?_⟩
   refine BIf.dec (fun hlt=>?_) (fun hge=>?_)
   ·have hlt0:rm<(l2.length:Int):=hlt
    refine ⟨.slice A2 l2.length c2,fun β w' hs=>z_ai (rr_bk (hs.get 0 rfl)) (o:=3) rfl,?_⟩
    refine ⟨c2,l2.length,1,l2.length - 1,c2 - 1,_,rfl,rfl,rfl,Nat.le_refl _,hc2,by omega,rfl,rfl,rfl,?_⟩
    refine ⟨_,fun β w' hs=>hs.cutL hc2 (by show 0<l2.length;omega),?_⟩
    refine ⟨.int .u64 e1,fun β w' hs=>by rw [<-he1];exact z_ai (rr_bk (hs.get 0 rfl)) (o:=4) rfl,?_⟩
    intro β w' hs
    refine hs.fin [1,0] ⟨{x.more with LA:=cutA A2 c2 1 1,Lc:=c2 - 1,es:=l2.tail},z1,by rw [he1];rfl,rfl,rfl,rfl,rfl,rfl,?_,?_,by rw [hkk];exact hz1,by rw [hkk];rfl⟩ rfl rfl rfl ⟨rfl,rfl,trivial⟩
    ·rw [moreL,hl2e,if_pos (by omega)]
    ·show l2.tail.length<=c2 - 1
     rw [List.length_tail]
     omega
   ·have hge0: ¬rm<(l2.length:Int):=hge
    refine ⟨.int .u64 e1,fun β w' hs=>by rw [<-he1];exact z_ai (rr_bk (hs.get 0 rfl)) (o:=4) rfl,?_⟩
    intro β w' hs
    refine hs.fin [1,0] ⟨{x.more with LA:=A2,Lc:=c2,es:=l2},z1,by rw [he1];rfl,rfl,rfl,rfl,rfl,rfl,?_,hc2,by rw [hkk];exact hz1,by rw [hkk];rfl⟩ rfl rfl rfl ⟨rfl,rfl,trivial⟩
    rw [moreL,hl2e,if_neg (by omega)]
  ·intro b2
   refine ⟨subPerm [4],?_⟩
   refine ⟨1,0,x.es.length,[],x.es.map (Value.int .u64),x.es.map (Value.int .u64),rfl,fun β w' hs=>rr_es (x:=x.more) (hs.get 4 rfl),hone,Nat.zero_add _,rfl,by omega,by show x.es.length*8<=_;omega,?_⟩
   intro A1 c1 p1 p2 p3
   refine ⟨subPerm [4],?_⟩
   refine ⟨1,x.es.length,l2.length,x.es.map (Value.int .u64),[.int .u64 e1],l2.map (Value.int .u64),rfl,fun β w' hs=>z_aj (hs.get 0 rfl),z_a9 rfl,hl2.symm,hv2,by omega,by show l2.length*8<=_;omega,?_⟩
   intro A2 c2 hc2 p5 p6
   refine ⟨subPerm [4],?_⟩
   refine ⟨subPerm [4],?_⟩
   refine ⟨[rrF {x.more with LA:=A2,Lc:=c2,es:=l2},rbxF x.bx kB z1,oddF 10],fun β w' hs=>(hs.perm [4,1,3,5]).setL,?_⟩
   refine z_af g z_bZ (by kernel_rfl) [] [rrF {x.more with LA:=A2,Lc:=c2,es:=l2}] (subPerm [0]) ?_
   refine ⟨.slice A2 l2.length c2,fun β w' hs=>z_ai (rr_bk (hs.get 0 rfl)) (o:=3) rfl,?_⟩
   refine ⟨.int .i64 rm,fun β w' hs=>by rw [<-hrm];exact z_ai (rr_bk (hs.get 0 rfl)) (o:=2) rfl,?_⟩
   refine BIf.dec (fun hlt=>?_) (fun hge=>?_)
   ·have hlt0:rm<(l2.length:Int):=hlt
    refine ⟨.slice A2 l2.length c2,fun β w' hs=>z_ai (rr_bk (hs.get 0 rfl)) (o:=3) rfl,?_⟩
    refine ⟨c2,l2.length,1,l2.length - 1,c2 - 1,_,rfl,rfl,rfl,Nat.le_refl _,hc2,by omega,rfl,rfl,rfl,?_⟩
    refine ⟨_,fun β w' hs=>hs.cutL hc2 (by show 0<l2.length;omega),?_⟩
    refine ⟨.int .u64 e1,fun β w' hs=>by rw [<-he1];exact z_ai (rr_bk (hs.get 0 rfl)) (o:=4) rfl,?_⟩
    intro β w' hs
    refine hs.fin [1,0] ⟨{x.more with LA:=cutA A2 c2 1 1,Lc:=c2 - 1,es:=l2.tail},z1,by rw [he1];rfl,rfl,rfl,rfl,rfl,rfl,?_,?_,by rw [hkk];exact hz1,by rw [hkk];rfl⟩ rfl rfl rfl ⟨rfl,rfl,trivial⟩
    ·rw [moreL,hl2e,if_pos (by omega)]
    ·show l2.tail.length<=c2 - 1
     rw [List.length_tail]
     omega
   ·have hge0: ¬rm<(l2.length:Int):=hge
    refine ⟨.int .u64 e1,fun β w' hs=>by rw [<-he1];exact z_ai (rr_bk (hs.get 0 rfl)) (o:=4) rfl,?_⟩
    intro β w' hs
    refine hs.fin [1,0] ⟨{x.more with LA:=A2,Lc:=c2,es:=l2},z1,by rw [he1];rfl,rfl,rfl,rfl,rfl,rfl,?_,hc2,by rw [hkk];exact hz1,by rw [hkk];rfl⟩ rfl rfl rfl ⟨rfl,rfl,trivial⟩
    rw [moreL,hl2e,if_neg (by omega)]
 ·intro b2
  refine ⟨subPerm [3],?_⟩
  intro b1
  refine ⟨subPerm [4],?_⟩
  refine ⟨0,0,x.es.length,[],x.es.map (Value.int .u64),x.es.map (Value.int .u64),rfl,fun β w' hs=>rr_es (x:=x.more) (hs.get 4 rfl),hone,Nat.zero_add _,rfl,by omega,by show x.es.length*8<=_;omega,?_⟩
  intro A1 c1 p1 p2 p3
  refine ⟨subPerm [4],?_⟩
  refine ⟨0,x.es.length,l2.length,x.es.map (Value.int .u64),[.int .u64 e1],l2.map (Value.int .u64),rfl,fun β w' hs=>z_aj (hs.get 1 rfl),z_a9 rfl,hl2.symm,hv2,by omega,by show l2.length*8<=_;omega,?_⟩
  intro A2 c2 hc2 p5 p6
  refine ⟨subPerm [4],?_⟩
  refine ⟨subPerm [4],?_⟩
  refine ⟨[rrF {x.more with LA:=A2,Lc:=c2,es:=l2},rbxF x.bx kB z1,oddF 10],fun β w' hs=>(hs.perm [4,0,3,5]).setL,?_⟩
  refine z_af g z_bZ (by kernel_rfl) [] [rrF {x.more with LA:=A2,Lc:=c2,es:=l2}] (subPerm [0]) ?_
  refine ⟨.slice A2 l2.length c2,fun β w' hs=>z_ai (rr_bk (hs.get 0 rfl)) (o:=3) rfl,?_⟩
  refine ⟨.int .i64 rm,fun β w' hs=>by rw [<-hrm];exact z_ai (rr_bk (hs.get 0 rfl)) (o:=2) rfl,?_⟩
  refine BIf.dec (fun hlt=>?_) (fun hge=>?_)
  ·have hlt0:rm<(l2.length:Int):=hlt
   refine ⟨.slice A2 l2.length c2,fun β w' hs=>z_ai (rr_bk (hs.get 0 rfl)) (o:=3) rfl,?_⟩
   refine ⟨c2,l2.length,1,l2.length - 1,c2 - 1,_,rfl,rfl,rfl,Nat.le_refl _,hc2,by omega,rfl,rfl,rfl,?_⟩
   refine ⟨_,fun β w' hs=>hs.cutL hc2 (by show 0<l2.length;omega),?_⟩
   refine ⟨.int .u64 e1,fun β w' hs=>by rw [<-he1];exact z_ai (rr_bk (hs.get 0 rfl)) (o:=4) rfl,?_⟩
   intro β w' hs
   refine hs.fin [1,0] ⟨{x.more with LA:=cutA A2 c2 1 1,Lc:=c2 - 1,es:=l2.tail},z1,by rw [he1];rfl,rfl,rfl,rfl,rfl,rfl,?_,?_,by rw [hkk];exact hz1,by rw [hkk];rfl⟩ rfl rfl rfl ⟨rfl,rfl,trivial⟩
   ·rw [moreL,hl2e,if_pos (by omega)]
   ·show l2.tail.length<=c2 - 1
    rw [List.length_tail]
    omega
  ·have hge0: ¬rm<(l2.length:Int):=hge
   refine ⟨.int .u64 e1,fun β w' hs=>by rw [<-he1];exact z_ai (rr_bk (hs.get 0 rfl)) (o:=4) rfl,?_⟩
   intro β w' hs
   refine hs.fin [1,0] ⟨{x.more with LA:=A2,Lc:=c2,es:=l2},z1,by rw [he1];rfl,rfl,rfl,rfl,rfl,rfl,?_,hc2,by rw [hkk];exact hz1,by rw [hkk];rfl⟩ rfl rfl rfl ⟨rfl,rfl,trivial⟩
   rw [moreL,hl2e,if_neg (by omega)]
end Go.Proofs.YtfomhhkoamapmaaGreatDoor.Sx
namespace Go.Proofs.YtfomhhkoamapmaaGreatDoor.Sx
open Go
attribute [local irreducible] Calls
def rretOut (x:RR) (e:Int) (v:Value) (Fs:List Fact):Prop:=
 if e∈x.es then∃x':RR,v= .int .i64 0/\x'.b=x.b/\x'.bx=x.bx/\x'.master=x.master/\x'.room=x.room/\x'.epoch=x.epoch/\x'.es=x.es.filter (fun y=>!decide (y=e))/\x'.es.length<=x'.Lc/\Fs=[rrF x']
 else v= .int .i64 15/\Fs=[rrF x]
structure RetJ where
 i:Nat
 A:Option Addr
 c:Nat
theorem z_xL (w:World) (x:RR) (e:Int) (hn:x.es.length<=1000) (hm:Mem w [rrF x]):Con Tryz.prog z_bw #[ptrR x.b,.int .u64 e] w [rrF x] (rretOut x e):=by
 have g:=z_hp w (Un [rrF x])
 have hml:=maxLen_eq
 have hs0:Sat (z_ci w (Un [rrF x])) Va.z 0 [] [rrF x] w:=hm.sat0 rfl (fun f hf _ k hk=>⟨f,hf,hk⟩)
 refine z_ac (cx:=z_ci w (Un [rrF x])) g z_jk rfl rfl (β:=Va.z) [.c (.v (ptrR x.b)),.c (.v (.int .u64 e))] 0 [] _ rfl rfl hs0 ?_
 obtain ⟨b,hb⟩: ∃b,decide (e∈x.es)=b:=⟨_,rfl⟩
 refine z_ah (v:= .bool b) (fun β w' hs=>by rw [<-hb];exact z_uN w' x e hn (hs.get 0 rfl) (hs.getLt 0 rfl)) ?_
 cases b with
 | false=>
  have hno:=of_decide_eq_false hb
  intro β w' hs
  exact hs.fin [0] (by unfold rretOut;rw [if_neg hno];exact ⟨rfl,rfl⟩)
 | true=>
  have hin:=of_decide_eq_true hb
  refine ⟨.slice x.LA x.es.length x.Lc,fun β w' hs=>z_ai (rr_bk (hs.get 0 rfl)) (o:=3) rfl,?_⟩
  obtain ⟨out,hout⟩: ∃out:Nat->List Int,∀i,out i=(x.es.take i).filter (fun y=>!decide (y=e)):=⟨fun i=>_,fun i=>rfl⟩
  have hol: ∀i,(out i).length<=1000:=fun i=>by
   rw [hout]
   exact Nat.le_trans (List.length_filter_le _ _) (by rw [List.length_take];omega)
  have h00:out 0=[]:=by rw [hout];rfl
  refine z_ag (ι:=RetJ) 0 (fun j=>[(0,.c (.v (ptrR x.b))),(1,.c (.v (.int .u64 e))),(5,.c (.v (.slice j.A (out j.i).length j.c))),(15,.c (.v (.slice x.LA x.es.length x.Lc))),(16,.c (.v (.int .i64 (x.es.length:Int)))),(17,.c (.v (.int .i64 (j.i:Int))))]) (fun _=>[]) (fun j=>[urowF j.A (out j.i) j.c,rrF x])
   (fun j=>j.i<=x.es.length/\(out j.i).length<=j.c) (fun j=>x.es.length - j.i) ⟨0,none,0⟩ ⟨Nat.zero_le _,by rw [h00];exact Nat.le_refl _⟩ (Ent.mk' ⟨rfl,rfl,by show some (SV.c (.v (.slice none 0 0)))=some (SV.c (.v (.slice none (out 0).length 0)));rw [h00];rfl,rfl,rfl,rfl,trivial⟩ rfl (fun β w' hs=>by
    have h:=hs.nilRow z_aA 1
    simp only [h00]
    exact h)) g ?_
  rintro ⟨i,A,c⟩ ⟨hi,hc⟩
  simp only at hi hc
  refine BIf.dec (fun hlt=>?_) (fun hge=>?_)
  ·have hlt0:(i:Int)<x.es.length:=hlt
   have hil:i<x.es.length:=by omega
   obtain ⟨y,hy,hym⟩:=at_lt hil
   have h0:=rr_es (hm.fact (rrF x) (by simp))
   obtain ⟨ad,hA,_⟩:=h0.2 (by omega)
   refine ⟨ad,i,hA,rfl,hil,.int .u64 y,fun β w' hs=>Rd.cell1 (by have h:=rr_es (hs.get 1 rfl);rw [hA] at h;exact h) (by rw [List.getElem?_map,hy];rfl),?_⟩
   have hnx:out (i+1)=out i++(if y=e then [] else [y]):=by
    rw [hout,hout,List.take_add_one,hy,List.filter_append]
    by_cases q:y=e<;>simp [q]
   refine BIf.not (BIf.dec (fun heq=>?_) (fun hne=>?_))
   ·have heq0:y=e:=heq
    rw [if_pos heq0,List.append_nil] at hnx
    refine ⟨((i+1:Nat):Int),by rw [wrap_i64 (by omega) (by omega)];rfl,?_⟩
    refine ⟨⟨i+1,A,c⟩,⟨hil,by show (out (i+1)).length<=c;rw [hnx];exact hc⟩,by show x.es.length - (i+1)<x.es.length - i;omega,?_⟩
    simp only [hnx]
    exact Ent.same ⟨rfl,rfl,rfl,rfl,rfl,rfl,trivial⟩ rfl
   ·have hne0: ¬y=e:=hne
    rw [if_neg hne0] at hnx
    have hl1:(out (i+1)).length=(out i).length+1:=by rw [hnx,List.length_append];rfl
    have hol1:=hol (i+1)
    intro b2
    refine ⟨1,(out i).length,(out (i+1)).length,(out i).map (Value.int .u64),[.int .u64 y],(out (i+1)).map (Value.int .u64),rfl,fun β w hs=>z_aj (hs.get 0 rfl),z_a9 rfl,by rw [hl1],by rw [hnx,List.map_append];rfl,by omega,by show (out (i+1)).length*8<=_;omega,?_⟩
    intro A' c' q1 q2 q3
    refine ⟨((i+1:Nat):Int),by rw [wrap_i64 (by omega) (by omega)];rfl,?_⟩
    exact ⟨⟨i+1,A',c'⟩,⟨hil,q1⟩,by show x.es.length - (i+1)<x.es.length - i;omega,Ent.mk' ⟨rfl,rfl,rfl,rfl,rfl,rfl,trivial⟩ rfl (fun β w' hs=>(hs.perm [1,2]).lower)⟩
  ·have hge0: ¬(i:Int)<x.es.length:=hge
   have hfin:out i=x.es.filter (fun y=>!decide (y=e)):=by rw [hout,List.take_of_length_le (by omega)]
   refine ⟨[rrF {x with LA:=A,Lc:=c,es:=out i},noO,noO],fun β w' hs=>(((hs.noMem noO trivial (fun _ h=>h)).noMem noO trivial (fun _ h=>h)).perm [3,2,0,1]).setL,?_⟩
   intro β w' hs
   exact hs.fin [0] (by unfold rretOut;rw [if_pos hin];exact ⟨{x with LA:=A,Lc:=c,es:=out i},rfl,rfl,rfl,rfl,rfl,rfl,hfin,hc,rfl⟩)
def rr0 (b bx:Nat) (mA:Option Addr) (mc:Nat) (master:List UInt8) (room:Nat):RR:=⟨b,bx,mA,mc,master,room,none,0,[],0⟩
theorem z_yX (w:World) (bx:Nat) (B:Bx.Box) (z:Lay) (M:Option Addr) (master:List UInt8) (cM room:Nat) (hma:master.length<=64) (hts:z.ts.map (·.1)=B.L) (hi:BInv B) (hL:B.L.length<4096) (hm:Mem w [rbxF bx B z,bsF M master,oddF 10]):
  Con Tryz.prog z_gP #[ptrB bx,.slice M master.length cM,.int .i64 (room:Int)] w [rbxF bx B z] fun v Fs=> ∃(x:RR) (z':Lay),v=ptrR x.b/\x.bx=bx/\x.master=master/\x.room=room/\x.epoch=1/\x.es=moreL [] 1 room/\x.es.length<=x.Lc/\z'.ts.map (·.1)=(macB B master (keyT 1).data.toList).2.L/\
   Fs=[rbxF bx (macB B master (keyT 1).data.toList).2 z',rrF x]:=by
 have g:=z_jK w (Un [rbxF bx B z])
 have hs0:Sat (z_de w (Un [rbxF bx B z])) Va.z 0 [] [rbxF bx B z,bsF M master,oddF 10] w:=hm.sat0 rfl (ownIn (Gs:=[rbxF bx B z]) (fun f hf=>by
  simp only [List.mem_cons,List.not_mem_nil,or_false] at hf
  rcases hf with rfl | rfl<;>rfl))
 obtain ⟨rm,hrm⟩: ∃rm:Int,(room:Int)=rm:=⟨_,rfl⟩
 rw [hrm]
 refine z_ds (cx:=z_de w (Un [rbxF bx B z])) g z_mB rfl rfl (β:=Va.z) [.c (.v (ptrB bx)),.c (.v (.slice M master.length cM)),.c (.v (.int .i64 rm))] 0 [] _ rfl rfl hs0 ?_
 refine z_ae g ?_
 refine z_ae g ?_
 refine z_aa [] (fun β w' hs=>copyC w' M master cM (hs.get 1 rfl) (by rw [z_o8];omega)) ?_
 rintro v Fs ⟨mA,mc,rfl,q1,q2,rfl⟩
 refine z_fI 0 (fun _=>[.pointer (some ⟨bx,0,none⟩),.slice mA master.length mc,.int .i64 rm,.slice none 0 0,.int .u64 0]) rfl rfl (fun _=>rfl) (fun rb=>?_)
 refine z_ha (F':=[rrF (rr0 rb bx mA mc master room),rbxF bx B z,oddF 10]) (fun β w' hs=>by
  have h1:=hs.noMem (rdoF 1 none 0 []) (z_vQ w' none) (fun k hk=>by obtain ⟨h,_⟩:=hk;exact absurd h (by decide))
  have h2:=h1.sep [1,2,0] rfl ⟨rfl,rfl,rfl,trivial⟩
  have e:rrF (rr0 rb bx mA mc master room)=sepF [bkF rb z_a7 [.pointer (some ⟨bx,0,none⟩),.slice mA master.length mc,.int .i64 rm,.slice none 0 0,.int .u64 0],browF z_ab mA master mc,rdoF 1 none 0 []]:=by
   rw [<-hrm]
   rfl
  rw [e]
  exact h2.perm [0,1,3]) ?_
 refine z_ae g ?_
 refine z_aa [1,0] (R:=rotOut (rr0 rb bx mA mc master room) B) (fun β w' hs=>z_xu w' (rr0 rb bx mA mc master room) B z (by show 0<98;decide) (by show 0<=1000;decide) hma hts hi hL (hs.mem.take (js:=[1,0,2]) rfl)) ?_
 rintro v Fs ⟨x',z',rfl,h1,h2,h3,h4,h5,h6,h7,h8,rfl⟩
 refine z_aQ g ?_
 intro β w' hs
 exact (hs.keepB (List.nil_sublist _)).fin [0,1] ⟨x',z',by rw [h1];rfl,h2,h3,h4,h5,h6,h7,h8,rfl⟩ rfl rfl rfl ⟨rfl,rfl,trivial⟩
structure RI (r:Rg) (x:RR) (B:Bx.Box) (n:Nat):Prop where
 ok:RgOk r
 rm:1<=r.room
 m:x.master=r.master
 room:x.room=r.room
 ep:x.epoch=r.epoch
 es:x.es=r.es
 lc:x.es.length<=x.Lc
 inv:BInv B
 len:B.L.length<=n
 epn:r.epoch<=n
 keys: ∀k∈r.ks,k.p.length=32/\macB B r.master (keyT k.e).data.toList=(k.p,B)
theorem RI.p {r:Rg} {x:RR} {B:Bx.Box} {n:Nat} (h:RI r x B n): ∀q∈r.ks,q.p.length<=1000:=fun q hq=>by rw [(h.keys q hq).1];decide
theorem RI.esl {r:Rg} {x:RR} {B:Bx.Box} {n:Nat} (h:RI r x B n):x.es.length<=1000:=by
 rw [h.es]
 have h1:=h.ok.len
 have h2:=h.ok.room
 show (r.ks.map _).length<=1000
 rw [List.length_map]
 omega
theorem RI.ma {r:Rg} {x:RR} {B:Bx.Box} {n:Nat} (h:RI r x B n):x.master.length<=64:=by rw [h.m];exact h.ok.master
theorem RI.rky {r:Rg} {x:RR} {B:Bx.Box} {n:Nat} (h:RI r x B n) (e:Int):RKy x B e ((r.key e).map (·.p)):=by
 cases hk:r.key e with
 | none=>
  show e∉x.es
  rw [h.es]
  intro q
  obtain ⟨k,hk1,hk2⟩:=List.mem_map.1 q
  have:=List.find?_eq_none.1 hk k hk1
  simp at this
  exact this hk2
 | some k=>
  have hm:k∈r.ks:=List.mem_of_find?_eq_some hk
  have he:=List.find?_some hk
  simp only [decide_eq_true_eq] at he
  obtain ⟨k1,k2⟩:=h.keys k hm
  refine ⟨by rw [h.es];exact List.mem_map.2 ⟨k,hm,he⟩,k1,k.e,he.symm,?_,by rw [h.m];exact k2⟩
  have h1:=h.ok.le k hm
  have h2:=h.ok.ep
  omega
theorem RI.grow {r:Rg} {x:RR} {B B':Bx.Box} {n n':Nat} (h:RI r x B n) (hL:B.L.length<4000) (hp:Pre B B') (hi:BInv B') (hl:B'.L.length<=n') (hn:n<=n'):RI r x B' n':=
 ⟨h.ok,h.rm,h.m,h.room,h.ep,h.es,h.lc,hi,hl,Nat.le_trans h.epn hn,fun k hk=>by
  obtain ⟨k1,k2⟩:=h.keys k hk
  have:=z_pk (B:=B) (B':=B') (by omega) r.master (keyT k.e).data.toList (by rw [k2];exact hp)
  rw [k2] at this
  exact ⟨k1,this⟩⟩
theorem z_zB (r:Rg):r.cut.es=if r.room<r.es.length then r.es.tail else r.es:=by
 unfold Rg.cut Rg.es
 rw [List.length_map]
 split
 ·simp [List.map_tail]
 ·rfl
theorem RI.rot {r:Rg} {x x':RR} {B:Bx.Box} {n:Nat} (h:RI r x B n) (hn:n<90) (A:Option Addr) (c:Nat) (h3:x'.master=x.master) (h4:x'.room=x.room) (h5:x'.epoch=x.epoch+1) (h6:x'.es=moreL x.es ((x.epoch+1:Nat):Int) x.room) (h7:x'.es.length<=x'.Lc):
  RI (r.more A c (macB B r.master (keyT (r.epoch+1)).data.toList).1).cut x' (macB B r.master (keyT (r.epoch+1)).data.toList).2 (n+1):=by
 have hl:=h.len
 have hep:=h.epn
 have hma:=h.ok.master
 have hg:=z_ev h.inv (by omega) (k:=r.master) (t:=(keyT (r.epoch+1)).data.toList) (by omega) (Nat.le_trans (z_qB (by omega)) (by decide))
 have hp:=z_vL (B:=B) (by omega) r.master (keyT (r.epoch+1)).data.toList
 have hag:=z_pk (B:=B) (B':=(macB B r.master (keyT (r.epoch+1)).data.toList).2) (by omega) r.master (keyT (r.epoch+1)).data.toList (Pre.refl _)
 have hgl:=hg.1.len
 have hg2:=h.grow (by omega) hp hg.1.inv (by omega) (Nat.le_succ n)
 generalize macB B r.master (keyT (r.epoch+1)).data.toList=q at *
 refine ⟨z_vH h.ok (by omega),by rw [z_to];exact h.rm,by rw [h3,z_m6];exact h.m,by rw [h4,z_to];exact h.room,by rw [h5,z_od,h.ep];rfl,?_,h7,hg.1.inv,by omega,by rw [z_od];show r.epoch+1<=n+1;omega,?_⟩
 ·rw [h6,z_zB,h.es,h.ep,h.room]
  have e:(r.more A c q.1).es=r.es++[((r.epoch+1:Nat):Int)]:=by show (r.ks++[_]).map _=_;rw [List.map_append];rfl
  rw [e]
  rfl
 ·intro k hk
  rw [z_m6]
  rcases List.mem_append.1 (show k∈r.ks++[(⟨r.epoch+1,A,c,q.1⟩:RKey)] from z_yy hk) with hk | hk
  ·exact hg2.keys k hk
  ·obtain rfl:=List.mem_singleton.1 hk
   exact ⟨hg.2.1,hag⟩
theorem z_s1 (e:Int): ∀ks:List RKey,(ks.map (·.e)).Pairwise (· < ·)->(ks.eraseP fun k=>decide ((k.e:Int)=e)).map (fun k=>(k.e:Int))=(ks.map fun k=>(k.e:Int)).filter (fun y=>!decide (y=e))
 | [],_=>rfl
 | k::t,h=>by
  rw [List.map_cons,List.pairwise_cons] at h
  by_cases hk:(k.e:Int)=e
  ·rw [List.eraseP_cons_of_pos (by simpa using hk),List.map_cons,List.filter_cons_of_neg (by simpa using hk)]
   symm
   refine List.filter_eq_self.2 fun y hy=>?_
   obtain ⟨q,hq,rfl⟩:=List.mem_map.1 hy
   have:=h.1 q.e (List.mem_map.2 ⟨q,hq,rfl⟩)
   simp
   omega
  ·rw [List.eraseP_cons_of_neg (by simpa using hk),List.map_cons,List.map_cons,List.filter_cons_of_pos (by simpa using hk),z_s1 e t h.2]
theorem RI.ret {r:Rg} {x x':RR} {B:Bx.Box} {n:Nat} (h:RI r x B n) (e:Int) (h3:x'.master=x.master) (h4:x'.room=x.room) (h5:x'.epoch=x.epoch) (h6:x'.es=x.es.filter (fun y=>!decide (y=e))) (h7:x'.es.length<=x'.Lc):RI (r.drop e) x' B n:=by
 have hsub:((r.drop e).ks).Sublist r.ks:=List.eraseP_sublist
 refine ⟨⟨h.ok.rise.sublist (hsub.map _),fun k hk=>h.ok.le k (z_sN hk),Nat.le_trans hsub.length_le h.ok.len,h.ok.room,h.ok.master,h.ok.ep⟩,h.rm,h3.trans h.m,h4.trans h.room,h5.trans h.ep,?_,h7,h.inv,h.len,h.epn,fun k hk=>h.keys k (z_sN hk)⟩
 rw [h6,h.es]
 exact (z_s1 e r.ks h.ok.rise).symm
theorem z_wW (w:World) (x:RR) (e:Int) (hn:x.es.length<=1000) (hno:e∉x.es) (hm:Mem w [rrF x]):Con Tryz.prog z_bw #[ptrR x.b,.int .u64 e] w [rrF x] (fun v Fs=>v= .int .i64 15/\Fs=[rrF x]):=
 (z_xL w x e hn hm).mono fun v Fs h=>by unfold rretOut at h;rw [if_neg hno] at h;exact h
theorem z_uW (w:World) (x:RR) (e:Int) (hn:x.es.length<=1000) (hin:e∈x.es) (hm:Mem w [rrF x]):Con Tryz.prog z_bw #[ptrR x.b,.int .u64 e] w [rrF x] (fun v Fs=> ∃x':RR,v= .int .i64 0/\x'.b=x.b/\x'.bx=x.bx/\x'.master=x.master/\x'.room=x.room/\x'.epoch=x.epoch/\x'.es=x.es.filter (fun y=>!decide (y=e))/\x'.es.length<=x'.Lc/\Fs=[rrF x']):=
 (z_xL w x e hn hm).mono fun v Fs h=>by unfold rretOut at h;rw [if_pos hin] at h;exact h
theorem RI.first {b bx:Nat} {mA:Option Addr} {mc:Nat} {master:List UInt8} {room m:Nat} {A:Option Addr} {c:Nat} {x:RR} {B:Bx.Box} (h1:1<=master.length) (h2:master.length<=64) (h3:1<=room) (h4:room<=8) (hi:BInv B) (hL:B.L.length<=0) (hxm:x.master=master) (hxr:x.room=room) (hxe:x.epoch=1) (hxl:x.es=moreL [] 1 room) (hxc:x.es.length<=x.Lc):
  RI ((ring0 b bx mA mc master room m).more A c (macB B master (keyT 1).data.toList).1).cut x (macB B master (keyT 1).data.toList).2 1:=by
 have h0:RI (ring0 b bx mA mc master room m) (rr0 b bx mA mc master room) B 0:=⟨⟨List.Pairwise.nil,fun k hk=>(by cases hk),Nat.zero_le _,h4,h2,by show 0<98;decide⟩,h3,rfl,rfl,rfl,rfl,Nat.le_refl _,hi,hL,Nat.le_refl _,fun k hk=>(by cases hk)⟩
 exact h0.rot (by decide) A c (x':=x) hxm hxr hxe hxl hxc
theorem z_lN {P : Program} {w : World} {d : Nat} {xs ys : Array Value} : ∀ (sp : List ((String × TypeId × Nat) × Bool)) (fs : List Field), fs.map (fun f => (f.name, f.type, f.offset)) = sp.map (·.1) → (∀ s ∈ sp, s.1.1 ≠ "_" ∧ ∃ a b, (part s.1.2.1 xs s.1.2.2).run P w = .ok a w ∧ (part s.1.2.1 ys s.1.2.2).run P w = .ok b w ∧ (Op.equalIn d s.1.2.1 a b).run P w = .ok s.2 w) →
  (Op.eqFields d xs ys fs).run P w= .ok (sp.all (·.2)) w
 | [],fs,h,_=>by
  obtain rfl:fs=[]:=List.map_eq_nil_iff.1 h
  rfl
 | s::r,[],h,_=>by cases h
 | s::r,f::fs,h,hs=>by
  rw [List.map_cons,List.map_cons] at h
  injection h with h1 h2
  obtain ⟨hn,a,b,ha,hb,hc⟩:=hs s List.mem_cons_self
  rw [<-h1] at hn ha hb hc
  have ih:=z_lN r fs h2 (fun x hx=>hs x (List.mem_cons_of_mem _ hx))
  simp only at hn ha hb hc
  simp only [Op.eqFields,hn,ne_eq,not_false_eq_true,if_true,Sem.run_bind,ha,hb,hc,Result.andThen_ok,Sem.run_ite,Sem.run_pure,List.all_cons]
  cases s.2 with
  | true=>simp [ih]
  | false=>simp
theorem z_t3 : (Tryz.prog.fieldsOf z_aF).toList.map (fun f => (f.name, f.type, f.offset)) = [("Tenant", z_ak, 0), ("User", z_ak, 1), ("Role", z_ak, 2)] := by kernel_rfl
theorem z_vM:Tryz.prog.eqGuardType Tryz.prog.depth z_aF=false:=by kernel_rfl
theorem z_w6:Tryz.prog.stoodInHeld z_aF=false:=by kernel_rfl
theorem z_uZ:Tryz.prog.underlying z_aF=some (.struct (Tryz.prog.fieldsOf z_aF)):=by kernel_rfl
def whoV (a b c:List UInt8):Value:= .agg #[.string (mkS a),.string (mkS b),.string (mkS c)]
theorem eqStr (d:Nat) (a b:List UInt8) (w:World):(Op.equalIn (d+1) z_ak (.string (mkS a)) (.string (mkS b))).run Tryz.prog w= .ok (decide (a=b)) w:=by
 rw [run_equalIn_string w d z_ak (mkS a) (mkS b) ((ok9).real (d:= .string) rfl rfl)]
 congr 1
 by_cases h:a=b
 ·simp [h]
 ·have: ¬(mkS a).toList=(mkS b).toList:=fun q=>h (z_rW (by apply ByteArray.ext;exact Array.toList_inj.1 (by simpa [ByteArray.toList_eq] using q)))
  simp [h,this]
theorem z_s7 (d:Nat) (a b c a' b' c':List UInt8) (w:World):(Op.equalIn (d+2) z_aF (whoV a b c) (whoV a' b' c')).run Tryz.prog w= .ok (decide (a=a'/\b=b'/\c=c')) w:=by
 unfold whoV
 rw [run_equalIn_struct w (d + 1) _ _ _ z_uZ z_w6, z_lN [(("Tenant", z_ak, 0), decide (a = a')), (("User", z_ak, 1), decide (b = b')), (("Role", z_ak, 2), decide (c = c'))] _ z_t3]
 ·congr 1
  simp only [List.all_cons,List.all_nil,Bool.and_true,<-Bool.decide_and]
 ·intro s hs
  simp only [List.mem_cons,List.not_mem_nil,or_false] at hs
  rcases hs with rfl | rfl | rfl
  · exact ⟨by show ("Tenant" : String) ≠ "_"; decide, .string (mkS a), .string (mkS a'), by simp [part], by simp [part], eqStr d a a' w⟩
  · exact ⟨by show ("User" : String) ≠ "_"; decide, .string (mkS b), .string (mkS b'), by simp [part], by simp [part], eqStr d b b' w⟩
  · exact ⟨by show ("Role" : String) ≠ "_"; decide, .string (mkS c), .string (mkS c'), by simp [part], by simp [part], eqStr d c c' w⟩
structure TkTy (T:TypeId):Prop where
 fields : (Tryz.prog.fieldsOf T).toList.map (fun f => (f.name, f.type, f.offset)) = [("Epoch", z_aA, 0), ("Serial", z_aA, 1), ("From", z_aA, 2), ("To", z_aA, 3), ("Gen", z_aA, 4), ("Who", z_aF, 5)]
 guard:Tryz.prog.eqGuardType Tryz.prog.depth T=false
 held:Tryz.prog.stoodInHeld T=false
 under:Tryz.prog.underlying T=some (.struct (Tryz.prog.fieldsOf T))
theorem z_xP:TkTy z_ad:=⟨by kernel_rfl,by kernel_rfl,by kernel_rfl,by kernel_rfl⟩
theorem eqU64 (d:Nat) (a b:Nat) (w:World):(Op.equalIn (d+1) z_aA (.int .u64 (a:Int)) (.int .u64 (b:Int))).run Tryz.prog w= .ok (decide (a=b)) w:=by
 rw [run_equalIn_int w d z_aA .u64 .u64 _ _ ((ok22).real (d:= .int .u64) rfl rfl)]
 congr 1
 by_cases h:a=b
 ·simp [h]
 ·have: ¬(a:Int)=(b:Int):=by omega
  simp [h,this]
theorem tk_ext {t u:Tk}:t=u↔(t.epoch=u.epoch/\t.serial=u.serial/\t.fro=u.fro/\t.til=u.til/\t.gen=u.gen/\t.ten=u.ten/\t.usr=u.usr/\t.rol=u.rol):=by
 obtain ⟨a,b,c,d,e,f,g,h⟩:=t
 obtain ⟨a',b',c',d',e',f',g',h'⟩:=u
 simp
theorem z_sQ (a b c d e:Value) (f g h:Value) (w:World):(part z_aF #[a,b,c,d,e,f,g,h] 5).run Tryz.prog w= .ok (.agg #[f,g,h]) w:=by
 have h1:(isAgg z_aF).run Tryz.prog w= .ok true w:=(ok50).run_agg w
 simp [part,h1]
open Classical in
theorem z_yo {T:TypeId} (hT:TkTy T) (d:Nat) (t u:Tk) (w:World):(Op.equalIn (d+3) T (.agg t.cells.toArray) (.agg u.cells.toArray)).run Tryz.prog w= .ok (decide (t=u)) w:=by
 rw [run_equalIn_struct w (d + 2) _ _ _ hT.under hT.held, z_lN [(("Epoch", z_aA, 0), decide (t.epoch = u.epoch)), (("Serial", z_aA, 1), decide (t.serial = u.serial)), (("From", z_aA, 2), decide (t.fro = u.fro)), (("To", z_aA, 3), decide (t.til = u.til)), (("Gen", z_aA, 4), decide (t.gen = u.gen)), (("Who", z_aF, 5), decide (t.ten = u.ten ∧ t.usr = u.usr ∧ t.rol = u.rol))] _ hT.fields]
 ·congr 1
  simp only [List.all_cons,List.all_nil,Bool.and_true,<-Bool.decide_and]
  exact decide_eq_decide.2 tk_ext.symm
 ·intro s hs
  simp only [List.mem_cons,List.not_mem_nil,or_false] at hs
  rcases hs with rfl | rfl | rfl | rfl | rfl | rfl
  · exact ⟨by show ("Epoch" : String) ≠ "_"; decide, .int .u64 t.epoch, .int .u64 u.epoch, by simp [part, Tk.cells], by simp [part, Tk.cells], eqU64 (d + 1) _ _ w⟩
  · exact ⟨by show ("Serial" : String) ≠ "_"; decide, .int .u64 t.serial, .int .u64 u.serial, by simp [part, Tk.cells], by simp [part, Tk.cells], eqU64 (d + 1) _ _ w⟩
  · exact ⟨by show ("From" : String) ≠ "_"; decide, .int .u64 t.fro, .int .u64 u.fro, by simp [part, Tk.cells], by simp [part, Tk.cells], eqU64 (d + 1) _ _ w⟩
  · exact ⟨by show ("To" : String) ≠ "_"; decide, .int .u64 t.til, .int .u64 u.til, by simp [part, Tk.cells], by simp [part, Tk.cells], eqU64 (d + 1) _ _ w⟩
  · exact ⟨by show ("Gen" : String) ≠ "_"; decide, .int .u64 t.gen, .int .u64 u.gen, by simp [part, Tk.cells], by simp [part, Tk.cells], eqU64 (d + 1) _ _ w⟩
  · exact ⟨by show ("Who" : String) ≠ "_"; decide, whoV t.ten t.usr t.rol, whoV u.ten u.usr u.rol, z_sQ _ _ _ _ _ _ _ _ w, z_sQ _ _ _ _ _ _ _ _ w, z_s7 d _ _ _ _ _ _ w⟩
theorem z_yS (a b c a' b' c':List UInt8) (p q:Operand) (w:World):(binSem .eql z_aF p q (whoV a b c) (whoV a' b' c')).run Tryz.prog w= .ok (.bool (decide (a=a'/\b=b'/\c=c'))) w:=by
 have he:=z_s7 9998 a b c a' b' c' w
 unfold binSem
 unfold whoV at he ⊢
 simp only [Sem.run_bind,run_eqGuard_agg w _ _ _ _ _ _ z_vM,Result.andThen_ok,run_eql_struct,he]
open Classical in
theorem z_zA {T:TypeId} (hT:TkTy T) (t u:Tk) (p q:Operand) (w:World):(binSem .eql T p q (.agg t.cells.toArray) (.agg u.cells.toArray)).run Tryz.prog w= .ok (.bool (decide (t=u))) w:=by
 have he:=z_yo hT 9997 t u w
 unfold binSem
 unfold Tk.cells at he ⊢
 simp only [Sem.run_bind,run_eqGuard_agg w _ _ _ _ _ _ hT.guard,Result.andThen_ok,run_eql_struct,he]
open Classical in
theorem z_sY {T:TypeId} (hT:TkTy T) (t:Tk) (p q:Operand) (w:World):(binSem .eql T p q (.agg t.cells.toArray) (.agg t.cells.toArray)).run Tryz.prog w= .ok (.bool true) w:=by
 have h:=z_zA hT t t p q w
 rw [decide_eq_true rfl] at h
 exact h
theorem z_n9 {t:Tk} (hR:t.Right):(bodyL t).length<=136/\1<=(bodyL t).length:=by
 have l1:=z_bg hR.ten
 have l2:=z_eg hR.usr
 have l3:=z_bg hR.rol
 unfold bodyL txtL
 simp only [List.length_cons,List.length_append,z_ay]
 omega
theorem z_r1 {t:Tk} (hR:t.Right) {m:List UInt8} (hm:m.length=32):(tkTxt t m).length<=300:=by
 have h1:=z_fE true (bodyL t)
 have h2:=z_fE true m
 have h3:=z_n9 hR
 unfold tkTxt
 rw [List.length_append,List.length_cons]
 show (b64L true (bodyL t)).length+((b64L true m).length+1)<=300
 omega
theorem z_o4 {ky:Int->Option (List UInt8)} {gone:Int->Bool} {B B':Bx.Box} {t:Tk} {k m:List UInt8} (now:Nat) (hR:t.Right) (hm:m.length=32) (hk:ky (t.epoch:Int)=some k) (hmac:macB B k (labL++bodyL t)=(m,B')):
  openT ky gone B (tkTxt t m) now=if now<t.fro\/t.til<=now then (tk0,9,B') else if gone (t.serial:Int)=true then (tk0,16,B') else (t,0,B'):=by
 unfold openT tkTxt
 rw [z_uq hm (Nat.le_trans (z_r1 hR hm) (by decide))]
 simp only
 rw [read_iff.2 ⟨hR,rfl⟩]
 simp only [hk,hmac]
 rw [if_pos trivial]
def annT:List UInt8:=[116]
def annU:List UInt8:=[97,110,110]
def annR:List UInt8:=[100,101,118]
theorem z_y5:namedT annU=true/\plainF annT=true/\plainF annR=true:=by decide+kernel
theorem ann_c (w:World):Pu Tryz.prog z_gQ #[] w (.agg #[.string (mkS annT),.string (mkS annU),.string (mkS annR)]):=by
 have g:=z_kf w (Un [])
 refine z_ac (cx:=z_fJ w (Un [])) g z_mO rfl rfl (β:=Va.z) [] 0 [] [] rfl rfl (Sat.start rfl) ?_
 intro β w' hs
 exact (hs.keepB (List.nil_sublist _)).fin [] ⟨rfl,rfl⟩
theorem z_wL (w:World) (sym:Bool) (life:Nat) (h1:1<=life) (h2:life<=1099511627776) (hm:Mem w [oddF 3,firstF 1]):
  Con Tryz.prog z_gm #[.bool sym,.int .u64 (life:Int)] w [] fun v Fs=> ∃(r:Rg) (y:Lay) (b m1 m2:Nat),v= .tuple #[ptrD b,ptrR r.b]/\r.master=[109]/\Kept r 3 0 (macB ⟨sym,false,[]⟩ [109] (keyT 1).data.toList).1/\GoodT ⟨sym,false,[]⟩ (macB ⟨sym,false,[]⟩ [109] (keyT 1).data.toList)/\y.ts.map (·.1)=(macB ⟨sym,false,[]⟩ [109] (keyT 1).data.toList).2.L/\
   Fs=[dkF ⟨b,r.b,life,0,m1,m2,[],[]⟩,rgF r,bxF r.bx (macB ⟨sym,false,[]⟩ [109] (keyT 1).data.toList).2 y]:=by
 have g:=z_iI w (Un [])
 refine z_dN (cx:=z_e6 w (Un [])) g z_lk [.c (.v (.bool sym)),.c (.v (.int .u64 (life:Int)))] [oddF 3,firstF 1] hm ?_
 refine z_aa [] (fun β w' hs=>z_xK w' sym) ?_
 rintro v Fs ⟨b0,y0,rfl,hy0,rfl⟩
 intro b1
 refine ⟨0,_,rfl,?_⟩
 have hi0:=box0i sym
 obtain ⟨B,hB⟩: ∃B:Bx.Box,(⟨sym,false,[]⟩:Bx.Box)=B:=⟨_,rfl⟩
 have hL0:B.L.length<=0:=by rw [<-hB];exact Nat.le_refl _
 have hts0:y0.ts.map (·.1)=B.L:=by rw [<-hB,hy0];rfl
 rw [hB] at hi0 ⊢
 refine z_aa [1] (fun β w' hs=>z_zL w' b0 B y0 (some ⟨b1,0,none⟩) [109] 1 3 (by decide) (by decide) (by decide) (by decide) hts0 hi0 (by omega) (hs.mem.take (js:=[1,0,2,3]) rfl)) ?_
 rintro v Fs ⟨r,y1,rfl,rb1,hma,k1,g1,hy1,rfl⟩
 refine z_aa [] (fun β w' hs=>z_qN w' r.b life) ?_
 rintro v Fs (⟨_,_,b,m1,m2,rfl,rfl⟩ | ⟨h,_⟩)
 rotate_left
 ·exact absurd ⟨h1,h2⟩ h
 intro β w' hs
 exact hs.fin [0,1,2] ⟨r,y1,b,m1,m2,rfl,hma,k1,g1,hy1,by rw [rb1];rfl⟩ rfl rfl rfl ⟨rfl,rfl,rfl,trivial⟩
theorem z_yJ {r:Rg} {d:Dk} {B B2:Bx.Box} {t:Tk} {v:Value} {Fs:List Fact} {k m:List UInt8} (h:mntOut r d B t v Fs) (hR:t.Right) (hk:r.ky (r.epoch:Int)=some k) (hq:macB B k (labL++bodyL t)=(m,B2)):
  ∃y',v= .tuple #[.string (mkS (tkTxt t m)),t.v,.int .i64 0]/\y'.ts.map (·.1)=B2.L/\Fs=[dkF (d.more t),rgF r,bxF r.bx B2 y']:=by
 rcases h with ⟨k',y',_,hk',rfl,hy,rfl⟩ | ⟨e,y',h,_⟩
 ·rw [hk] at hk'
  obtain rfl:=Option.some.inj hk'
  rw [hq] at hy ⊢
  exact ⟨y',rfl,hy,rfl⟩
 ·rcases h with ⟨h,_⟩ | ⟨_,h,_⟩
  ·exact absurd hR h
  ·rw [hk] at h;cases h
theorem Kept.ky {r:Rg} {k t:Nat} {k1:List UInt8} (h:Kept r k t k1) (hlt:t<k):r.ky 1=some k1:=by
 obtain ⟨q,hq,hp⟩:=h.key hlt
 unfold Rg.ky
 rw [hq,<-hp]
 rfl
theorem Kept.ep1 {r:Rg} {k:Nat} {k1:List UInt8} (h:Kept r k 0 k1) (hlt:0<k):r.ep=1:=by
 obtain ⟨q,hq,_⟩:=h.key hlt
 have he:=h.ep
 unfold Rg.ep
 rw [he]
 show (match r.key ((1:Nat):Int) with | some _=>1 | none=>1)=1
 split<;>rfl
def dk1 (b rb life m1 m2:Nat):Dk:=⟨b,rb,life,0,m1,m2,[],[]⟩
theorem z_v1 (w:World) (hm:Mem w [oddF 3,firstF 1,mlF,namF]):Con Tryz.prog z_fA #[] w [] fun v Fs=>v= .bool true/\Fs=[]:=by
 have g:=z_if w (Un [])
 refine z_dN (cx:=z_eV w (Un [])) g z_kQ [] [oddF 3,firstF 1,mlF,namF] hm ?_
 refine z_aa [] (fun β w' hs=>z_wL w' false 10 (by decide) (by decide) (hs.mem.take (js:=[0,1]) rfl)) ?_
 rintro v Fs ⟨r,y1,b,m1,m2,rfl,hma,kp,g1,hy1,rfl⟩
 generalize macB ⟨false,false,[]⟩ [109] (keyT 1).data.toList=q1 at *
 obtain ⟨k1,B1⟩:=q1
 have l1:=g1.1.len
 have hk32:=g1.2.1
 have hi1:=g1.1.inv
 simp only at l1 hy1 kp hk32 hi1
 have hL1:B1.L.length<=1:=l1
 have hep:r.epoch=1:=kp.ep
 have hep1:=kp.ep1 (by decide)
 have hky:=kp.ky (by decide)
 refine z_ah (fun β w' hs=>ann_c w') ?_
 obtain ⟨t,ht⟩: ∃t:Tk,(⟨1,1,5,15,7,annT,annU,annR⟩:Tk)=t:=⟨_,rfl⟩
 have hR:t.Right:=by
  obtain ⟨a1,a2,a3⟩:=z_y5
  rw [<-ht]
  exact ⟨a1,a2,a3,by decide,by decide,by decide,by decide,by decide,by decide,by decide,by decide⟩
 obtain ⟨q,hq⟩: ∃q,macB B1 k1 (labL++bodyL t)=q:=⟨_,rfl⟩
 have hbl:=z_n9 hR
 have g2:=z_ev hi1 (by omega) (k:=k1) (t:=labL++bodyL t) (by omega) (by rw [List.length_append];show 7+_<=_;omega)
 have h2a:=z_pk (B:=B1) (B':=(macB B1 k1 (labL++bodyL t)).2) (by omega) k1 (labL++bodyL t) (Pre.refl _)
 rw [hq] at g2 h2a
 obtain ⟨m,B2⟩:=q
 have l2:=g2.1.len
 have hm32:=g2.2.1
 have hi2:=g2.1.inv
 simp only at l2 hm32 hi2 h2a
 refine z_aa [0,1,2] (fun β w' hs=>(z_qt w' (dk1 b r.b 10 m1 m2) r B1 y1 annT annU annR 7 5 (by decide) (by decide) (by decide) (by decide) (by decide) rfl (Nat.zero_le _) (by omega) kp.p hy1 hi1 (by omega) (hs.mem.take (js:=[0,1,2,3,4,6]) rfl)).mono (fun v Fs h=>by
  rw [hep1,show (⟨1,(dk1 b r.b 10 m1 m2).serial+1,5,addTk 5 (dk1 b r.b 10 m1 m2).life,7,annT,annU,annR⟩:Tk)=t from ht] at h
  exact z_yJ h hR (by rw [hep];exact hky) hq)) ?_ ⟨rfl,rfl,rfl,trivial⟩
 rintro v Fs ⟨y2,rfl,hy2,rfl⟩
 obtain ⟨d2,hd2⟩: ∃d2,(dk1 b r.b 10 m1 m2).more t=d2:=⟨_,rfl⟩
 have hb2:d2.b=b:=by rw [<-hd2];rfl
 have hr2:d2.rb=r.b:=by rw [<-hd2];rfl
 have hv2:d2.rv=[]:=by rw [<-hd2];rfl
 have ht2:ilook d2.to 1=some (.int .u64 15):=by rw [<-hd2,<-ht];rfl
 have hkt:r.ky (t.epoch:Int)=some k1:=by rw [<-ht];exact hky
 have htl:=z_r1 hR hm32
 have hfro:t.fro=5:=by rw [<-ht]
 have htil:t.til=15:=by rw [<-ht]
 have hser:t.serial=1:=by rw [<-ht]
 rw [hd2,<-hb2]
 refine z_aa [0,1,2] (R:=opnOut r d2 (t,0,B2)) (fun β w' hs=>by
  have h:=z_mk w' d2 r B2 y2 (tkTxt t m) 14 (by omega) hr2 kp.p hy2 hi2 (by omega) (by rw [hv2];intro k v q;cases q) (hs.mem.take (js:=[0,1,2,3,4,5,6]) rfl)
  rw [z_o4 14 hR hm32 hkt h2a,if_neg (by omega),if_neg (by unfold Dk.gone;rw [hv2];intro h;cases h)] at h
  exact h) ?_ ⟨rfl,rfl,rfl,trivial⟩
 rintro v Fs ⟨y3,hy3,rfl,rfl⟩
 simp only at hy3
 refine z_aa [0,1,2] (R:=opnOut r d2 (tk0,9,B2)) (fun β w' hs=>by
  have h:=z_mk w' d2 r B2 y3 (tkTxt t m) 15 (by omega) hr2 kp.p hy3 hi2 (by omega) (by rw [hv2];intro k v q;cases q) (hs.mem.take (js:=[0,1,2,3,4,5,6]) rfl)
  rw [z_o4 15 hR hm32 hkt h2a,if_pos (by omega)] at h
  exact h) ?_ ⟨rfl,rfl,rfl,trivial⟩
 rintro v Fs ⟨y4,hy4,rfl,rfl⟩
 simp only at hy4
 refine z_aa [0] (fun β w' hs=>(z_pD w' d2 1 (by rw [hv2];intro v q;cases q) (hs.mem.take (js:=[0]) rfl)).mono (fun v Fs h=>by
  unfold revD at h
  rw [show ((1:Nat):Int)=1 from rfl,ht2,hv2,if_neg (by simp),if_pos (show ilook [] (1:Int)=none from rfl)] at h
  exact h)) ?_
 rintro v Fs ⟨rfl,rfl⟩
 obtain ⟨d3,hd3⟩: ∃d3:Dk,({d2 with rv:=iput [] 1 (.bool true)}:Dk)=d3:=⟨_,rfl⟩
 have hb3:d2.b=d3.b:=by rw [<-hd3]
 have hr3:d3.rb=r.b:=by rw [<-hd3];exact hr2
 have hv3:d3.rv=[(1,.bool true)]:=by rw [<-hd3];rfl
 rw [hd3,hb3]
 refine z_aa [0,1,2] (R:=opnOut r d3 (tk0,16,B2)) (fun β w' hs=>by
  have h:=z_mk w' d3 r B2 y4 (tkTxt t m) 14 (by omega) hr3 kp.p hy4 hi2 (by omega) (by rw [hv3];intro k v q;unfold ilook at q;split at q;exact (Option.some.inj q).symm;cases q) (hs.mem.take (js:=[0,1,2,3,4,5,6]) rfl)
  rw [z_o4 14 hR hm32 hkt h2a,if_neg (by omega),if_pos (by unfold Dk.gone;rw [hv3,hser];rfl)] at h
  exact h) ?_ ⟨rfl,rfl,rfl,trivial⟩
 rintro v Fs ⟨y5,hy5,rfl,rfl⟩
 subst ht
 refine z_af g z_iX (by kernel_rfl) [⟨3,z_an,tk0.cells.map SL.v⟩,⟨2,z_an,tk0.cells.map SL.v⟩,⟨1,z_an,(Tk.cells ⟨1,1,5,15,7,annT,annU,annR⟩).map SL.v⟩,⟨0,z_an,(Tk.cells ⟨1,1,5,15,7,annT,annU,annR⟩).map SL.v⟩] [] (Sub.of (List.Sublist.refl _) (List.nil_sublist _)) ?_
 refine z_ah (fun β w' hs=>ann_c w') ?_
 refine ⟨Sub.of (List.Sublist.refl _) (List.nil_sublist _),?_⟩
 refine ⟨true,fun β w'=>by
  have h:=z_yS annT annU annR annT annU annR (.tmp 56) (.tmp 57) w'
  rw [decide_eq_true (⟨rfl,rfl,rfl⟩:annT=annT/\annU=annU/\annR=annR)] at h
  exact h,?_⟩
 intro β w' hs
 exact (hs.keepB (List.nil_sublist _)).fin [] ⟨rfl,rfl⟩
end Go.Proofs.YtfomhhkoamapmaaGreatDoor.Sx
namespace Go.Proofs.YtfomhhkoamapmaaGreatDoor.Sx
open Go
structure Kn where
 s:Nat
 til:Nat
 rv:Bool
abbrev toL (L:List Kn):MLI:=L.map fun k=>((k.s:Int),Value.int .u64 (k.til:Int))
abbrev rvL (R:List Nat):MLI:=R.map fun s:Nat=>((s:Int),Value.bool true)
abbrev rvS (L:List Kn):List Nat:=(L.filter (·.rv)).map Kn.s
structure KnI (to_ rv:MLI) (L:List Kn) (n:Nat):Prop where
 tt:to_=toL L
 ri:(L.map Kn.s).Pairwise (· < ·)
 le: ∀k∈L,k.s<=n
 tl: ∀k∈L,k.til<18446744073709551616
 ln:L.length<=n
 rr: ∃R:List Nat,rv=rvL R/\R.Perm (rvS L)
theorem KnI.nil:KnI [] [] [] 0:=⟨rfl,List.Pairwise.nil,fun _ h=>(by cases h),fun _ h=>(by cases h),Nat.le_refl _,[],rfl,List.Perm.refl _⟩
theorem z_lq (X Y:List Kn):rvS (X++Y)=rvS X++rvS Y:=by simp [rvS,List.filter_append]
theorem z_mx (k:Kn) (Y:List Kn):rvS (k::Y)=if k.rv then k.s::rvS Y else rvS Y:=by
 unfold rvS
 cases h:k.rv<;>simp [h]
theorem z_l8 (s:Nat): ∀L:List Kn,ilook (toL L) (s:Int)=(L.find? fun k=>decide (k.s=s)).map fun k=>Value.int .u64 (k.til:Int)
 | []=>rfl
 | k::L=>by
  show (if (k.s:Int)=(s:Int) then _ else ilook (toL L) s)=_
  rw [List.find?_cons]
  by_cases h:k.s=s
  ·rw [if_pos (by omega),decide_eq_true h];rfl
  ·rw [if_neg (by omega),decide_eq_false h];exact z_l8 s L
theorem z_rh (s:Nat): ∀R:List Nat,ilook (rvL R) (s:Int)=if s∈R then some (.bool true) else none
 | []=>rfl
 | r::R=>by
  show (if (r:Int)=(s:Int) then _ else ilook (rvL R) s)=_
  by_cases h:r=s
  ·subst h
   rw [if_pos rfl,if_pos List.mem_cons_self]
  ·rw [if_neg (by omega),z_rh s R]
   by_cases k:s∈R
   ·rw [if_pos k,if_pos (List.mem_cons_of_mem _ k)]
   ·rw [if_neg k,if_neg (fun q=>by rcases List.mem_cons.1 q with e | e;exact h e.symm;exact k e)]
theorem z_sV (s:Nat): ∀R:List Nat,idel (rvL R) (s:Int)=rvL (R.erase s)
 | []=>by rw [List.erase_nil];rfl
 | r::R=>by
  show (if (r:Int)=(s:Int) then rvL R else _::idel (rvL R) s)=_
  by_cases h:r=s
  ·subst h
   rw [if_pos rfl,List.erase_cons_head]
  ·rw [if_neg (by omega),List.erase_cons_tail (by simpa using h),z_sV s R]
   rfl
theorem z_tn (k:Kn): ∀X Y:List Kn,(∀x∈X,x.s≠k.s)->idel (toL (X++k::Y)) (k.s:Int)=toL (X++Y)
 | [],Y,_=>by
  show (if (k.s:Int)=(k.s:Int) then _ else _)=_
  rw [if_pos rfl]
  rfl
 | x::X,Y,h=>by
  have h1:=h x List.mem_cons_self
  show (if (x.s:Int)=(k.s:Int) then _ else _::idel (toL (X++k::Y)) k.s)=_
  rw [if_neg (by omega),z_tn k X Y (fun y hy=>h y (List.mem_cons_of_mem _ hy))]
  rfl
theorem KnI.apart {to_ rv:MLI} {X Y:List Kn} {k:Kn} {n:Nat} (h:KnI to_ rv (X++k::Y) n):(∀x∈X,x.s<k.s)/\ ∀y∈Y,k.s<y.s:=by
 have hr:=h.ri
 rw [List.map_append,List.map_cons,List.pairwise_append,List.pairwise_cons] at hr
 exact ⟨fun x hx=>hr.2.2 _ (List.mem_map.2 ⟨x,hx,rfl⟩) _ List.mem_cons_self,fun y hy=>hr.2.1.1 _ (List.mem_map.2 ⟨y,hy,rfl⟩)⟩
theorem z_yE {X Y:List Kn} {k:Kn} (hX: ∀x∈X,x.s≠k.s):(X++k::Y).find? (fun q=>decide (q.s=k.s))=some k:=by
 rw [List.find?_append,List.find?_eq_none.2 (fun x hx=>by simpa using hX x hx),Option.none_or,List.find?_cons,decide_eq_true rfl]
theorem KnI.look {to_ rv:MLI} {X Y:List Kn} {k:Kn} {n:Nat} (h:KnI to_ rv (X++k::Y) n):ilook to_ (k.s:Int)=some (.int .u64 (k.til:Int)):=by
 rw [h.tt,z_l8,z_yE (fun x hx=>by have:=h.apart.1 x hx;omega)]
 rfl
theorem rvS_mem {L:List Kn} {s:Nat}:s∈rvS L↔ ∃k∈L,k.rv=true/\k.s=s:=by
 simp [rvS,and_assoc]
theorem KnI.gone {to_ rv:MLI} {L:List Kn} {n:Nat} (h:KnI to_ rv L n) (s:Nat):ilook rv (s:Int)=if s∈rvS L then some (.bool true) else none:=by
 obtain ⟨R,hR,hp⟩:=h.rr
 rw [hR,z_rh]
 by_cases k:s∈R
 ·rw [if_pos k,if_pos (hp.subset k)]
 ·rw [if_neg k,if_neg (fun q=>k (hp.symm.subset q))]
theorem KnI.goneAt {to_ rv:MLI} {X Y:List Kn} {k:Kn} {n:Nat} (h:KnI to_ rv (X++k::Y) n):ilook rv (k.s:Int)=if k.rv then some (.bool true) else none:=by
 rw [h.gone]
 obtain ⟨h1,h2⟩:=h.apart
 by_cases e:k.rv=true
 ·rw [if_pos e,if_pos (rvS_mem.2 ⟨k,by simp,e,rfl⟩)]
 ·rw [if_neg e,if_neg (fun q=>by
   obtain ⟨x,hx,q1,q2⟩:=rvS_mem.1 q
   rcases List.mem_append.1 hx with hx | hx
   ·have:=h1 x hx;omega
   ·rcases List.mem_cons.1 hx with rfl | hx
    ·exact e q1
    ·have:=h2 x hx;omega)]
theorem KnI.del {to_ rv:MLI} {X Y:List Kn} {k:Kn} {n:Nat} (h:KnI to_ rv (X++k::Y) n):KnI (idel to_ (k.s:Int)) (idel rv (k.s:Int)) (X++Y) n:=by
 obtain ⟨h1,h2⟩:=h.apart
 obtain ⟨R,hR,hp⟩:=h.rr
 have hsub:(X++Y).Sublist (X++k::Y):=(List.Sublist.refl X).append (List.sublist_cons_self _ _)
 refine ⟨by rw [h.tt];exact z_tn k X Y (fun x hx=>by have:=h1 x hx;omega),h.ri.sublist (hsub.map _),fun q hq=>h.le q (hsub.subset hq),fun q hq=>h.tl q (hsub.subset hq),Nat.le_trans hsub.length_le h.ln,R.erase k.s,by rw [hR,z_sV],?_⟩
 have hno:k.s∉rvS X++rvS Y:=fun q=>by
  rcases List.mem_append.1 q with q | q
  ·obtain ⟨x,hx,_,q2⟩:=rvS_mem.1 q
   have:=h1 x hx;omega
  ·obtain ⟨x,hx,_,q2⟩:=rvS_mem.1 q
   have:=h2 x hx;omega
 rw [z_lq,z_mx] at hp
 rw [z_lq]
 by_cases e:k.rv=true
 ·rw [if_pos e] at hp
  have h3:=(hp.trans List.perm_middle).erase k.s
  rw [List.erase_cons_head] at h3
  exact h3
 ·rw [if_neg e] at hp
  rw [List.erase_of_not_mem (fun q=>hno (hp.subset q))]
  exact hp
theorem KnI.put {to_ rv:MLI} {L:List Kn} {n:Nat} (h:KnI to_ rv L n) (t:Nat) (ht:t<18446744073709551616):KnI (iput to_ ((n+1:Nat):Int) (.int .u64 (t:Int))) rv (L++[⟨n+1,t,false⟩]) (n+1):=by
 have hle:=h.le
 have hno:ilook to_ ((n+1:Nat):Int)=none:=by
  rw [h.tt,z_l8,List.find?_eq_none.2 (fun x hx=>by have:=hle x hx;simp;omega)]
  rfl
 refine ⟨by rw [z_n6 hno,h.tt];simp [toL],?_,fun k hk=>?_,fun k hk=>?_,by rw [List.length_append];exact Nat.succ_le_succ h.ln,?_⟩
 ·rw [List.map_append,List.pairwise_append]
  refine ⟨h.ri,List.pairwise_singleton _ _,fun a ha b hb=>?_⟩
  obtain ⟨x,hx,rfl⟩:=List.mem_map.1 ha
  obtain rfl:=List.mem_singleton.1 hb
  have:=hle x hx
  show x.s<n+1
  omega
 ·rcases List.mem_append.1 hk with hk | hk
  ·exact Nat.le_succ_of_le (hle k hk)
  ·obtain rfl:=List.mem_singleton.1 hk;exact Nat.le_refl _
 ·rcases List.mem_append.1 hk with hk | hk
  ·exact h.tl k hk
  ·obtain rfl:=List.mem_singleton.1 hk;exact ht
 ·obtain ⟨R,hR,hp⟩:=h.rr
  refine ⟨R,hR,?_⟩
  rw [z_lq]
  show R.Perm (rvS L++[])
  rw [List.append_nil]
  exact hp
theorem KnI.revoke {to_ rv:MLI} {X Y:List Kn} {k:Kn} {n:Nat} (h:KnI to_ rv (X++k::Y) n) (hk:k.rv=false):KnI to_ (iput rv (k.s:Int) (.bool true)) (X++⟨k.s,k.til,true⟩::Y) n:=by
 have hno:ilook rv (k.s:Int)=none:=by rw [h.goneAt,hk];rfl
 have ht:=h.tt
 have hri:=h.ri
 refine ⟨by rw [ht];simp [toL],by simpa using hri,fun q hq=>?_,fun q hq=>?_,by have:=h.ln;simpa using this,?_⟩
 ·rcases List.mem_append.1 hq with hq | hq
  ·exact h.le q (List.mem_append_left _ hq)
  ·rcases List.mem_cons.1 hq with rfl | hq
   ·exact h.le k (by simp)
   ·exact h.le q (List.mem_append_right _ (List.mem_cons_of_mem _ hq))
 ·rcases List.mem_append.1 hq with hq | hq
  ·exact h.tl q (List.mem_append_left _ hq)
  ·rcases List.mem_cons.1 hq with rfl | hq
   ·exact h.tl k (by simp)
   ·exact h.tl q (List.mem_append_right _ (List.mem_cons_of_mem _ hq))
 ·obtain ⟨R,hR,hp⟩:=h.rr
  refine ⟨R++[k.s],by rw [z_n6 hno,hR];simp [rvL],?_⟩
  rw [z_lq,z_mx,hk] at hp
  rw [z_lq,z_mx]
  show (R++[k.s]).Perm (rvS X++k.s::rvS Y)
  exact (List.perm_append_comm (l₁:=R) (l₂:=[k.s])).trans ((hp.cons k.s).trans List.perm_middle.symm)
theorem KnI.rise {to_ rv:MLI} {L:List Kn} {n:Nat} (h:KnI to_ rv L n):(rvS L).Pairwise (· < ·):=h.ri.sublist (List.filter_sublist.map _)
theorem z_ry {l:List Int} {M:List Nat} (hs:l.Pairwise (· <= ·)) (hp:l.Perm (M.map fun s:Nat=>(s:Int))) (hM:M.Pairwise (· < ·)):l=M.map fun s:Nat=>(s:Int):=by
 refine List.Perm.eq_of_pairwise (le:=fun x y=>x<=y) (fun a b _ _ p q=>by omega) hs (List.pairwise_map.2 (hM.imp fun {a b} q=>by omega)) hp
theorem KnI.keysRv {to_ rv:MLI} {L:List Kn} {n:Nat} (h:KnI to_ rv L n) {l:List Int} (hs:l.Pairwise (· <= ·)) (hp:l.Perm (rv.map Prod.fst)):l=(rvS L).map fun s:Nat=>(s:Int):=by
 obtain ⟨R,hR,hq⟩:=h.rr
 refine z_ry hs (hp.trans ?_) h.rise
 rw [hR,List.map_map]
 exact hq.map _
theorem KnI.keysTo {to_ rv:MLI} {L:List Kn} {n:Nat} (h:KnI to_ rv L n) {l:List Int} (hs:l.Pairwise (· <= ·)) (hp:l.Perm (to_.map Prod.fst)):l=(L.map Kn.s).map fun s:Nat=>(s:Int):=by
 refine z_ry hs (hp.trans ?_) h.ri
 rw [h.tt,List.map_map,List.map_map]
 exact List.Perm.refl _
theorem z_qe {L:List Kn}:(rvS L).length<=L.length:=by
 unfold rvS
 rw [List.length_map]
 exact List.length_filter_le _ _
theorem KnI.rvLen {to_ rv:MLI} {L:List Kn} {n:Nat} (h:KnI to_ rv L n):rv.length<=n:=by
 obtain ⟨R,hR,hq⟩:=h.rr
 have h1:=hq.length_eq
 have h2:=z_qe (L:=L)
 have h3:=h.ln
 rw [hR,List.length_map]
 omega
theorem KnI.toLen {to_ rv:MLI} {L:List Kn} {n:Nat} (h:KnI to_ rv L n):to_.length<=n:=by
 rw [h.tt,List.length_map]
 exact h.ln
def swpL (L:List Kn) (now:Nat):List Kn:=L.filter fun k=>decide (now<k.til)
def swpN (L:List Kn) (now:Nat):Nat:=(L.filter fun k=>!decide (now<k.til)&&k.rv).length
end Go.Proofs.YtfomhhkoamapmaaGreatDoor.Sx
namespace Go.Proofs.YtfomhhkoamapmaaGreatDoor.Sx
open Go
attribute [local irreducible] Calls
theorem z_wE (w:World) (mb:Option Nat):Con Tryz.prog 54 #[.map mb] w [] fun v Fs=> ∃B,v= .func (.func 84) #[] #[.pointer (some ⟨B,0,none⟩)]/\Fs=[bkF B z_av [.map mb]]:=by
 refine z_ac (cx:=z_a1 w (Un [])) (z_bB w (Un [])) z_b0 rfl rfl (β:=Va.z) [.c (.v (.map mb))] 0 [] [] rfl rfl (Sat.start rfl) ?_
 intro β w' hs
 exact hs.ofBk.fin [0] ⟨β 0,rfl,rfl⟩
theorem z_u5 (l:Nat) (w:World) (bx b:Nat) (lm:MLI) (f0 R:Fact) (J Jx:List Int->Fact->Prop) (hJ0:J [] f0) (hJo: ∀pre f,J pre f->f.own=true) (hRo:R.own=false) (hY:Yc Tryz.prog l J Jx R (insK lm.length))
  (hm:Mem w (f0::R::[bkF bx z_av [.map (some b)],mapIF .u64 b lm])):
  Con Tryz.prog 84 #[.func (.yield l) #[] #[],.pointer (some ⟨bx,0,none⟩)] w [f0,bkF bx z_av [.map (some b)],mapIF .u64 b lm]
   (fun _ Fs=> ∃f Fs',Fs=f::Fs'/\((∃xs,J xs f/\xs.Perm (lm.map (·.1))/\Fs'=[mapIF .u64 b lm])\/(∃pre,Jx pre f/\Fs'=[mapIF .u64 b lm]))):=by
 have g:=z_bu w (Un [f0,bkF bx z_av [.map (some b)],mapIF .u64 b lm]) [bx]
 have hs0:Sat (z_aC w (Un [f0,bkF bx z_av [.map (some b)],mapIF .u64 b lm]) [bx]) (Va.of fun _=>bx) 1 [] (f0::R::[bkF bx z_av [.map (some b)],mapIF .u64 b lm]) w:=by
  refine hm.sat rfl (fun f hf ho k hk=>?_) ⟨Nat.le_refl 1,fun i hi=>by obtain rfl:i=0:=Nat.lt_one_iff.1 hi;rfl⟩
  simp only [List.mem_cons,List.not_mem_nil,or_false] at hf
  rcases hf with rfl | rfl | rfl | rfl
  ·exact ⟨_,by simp,hk⟩
  ·rw [hRo] at ho;cases ho
  ·exact ⟨bkF bx z_av [.map (some b)],by simp,hk⟩
  ·exact ⟨mapIF .u64 b lm,by simp,hk⟩
 have hs1:=hs0.toBk 2 rfl 0 Nat.zero_lt_one rfl
 refine z_ac (cx:=z_aC w (Un [f0,bkF bx z_av [.map (some b)],mapIF .u64 b lm]) [bx]) g z_bG rfl rfl (β:=Va.of fun _=>bx) [.c (.v (.func (.yield l) #[] #[])),.c (.p 0 0)] 1 _ _ rfl rfl hs1 ?_
 refine ⟨Nat,fun r=> .pointer (some ⟨r,0,none⟩),fun r=>[f0,R,itIF .u64 b r lm [] none],fun β w' ty hs=>hs.rangeI g 2 rfl,fun r=>?_⟩
 refine z_ag (ι:=MLI×Fact×Option (Int×Value)) 1 (fun _=>[(0,.c (.v (.func (.yield l) #[] #[]))),(1,.c (.p 0 0)),(5,.c (.v (.pointer (some ⟨r,0,none⟩))))]) (fun _=>[⟨0,z_av,[.v (.map (some b))]⟩]) (fun i=>[i.2.1,R,itIF .u64 b r lm i.1 i.2.2])
  (fun i=>J (i.1.map (·.1)) i.2.1) (fun i=>lm.length - i.1.length) ([],f0,none) hJ0 (Ent.same ⟨rfl,rfl,rfl,trivial⟩ rfl) g ?_
 rintro ⟨ss,f,cur⟩ hJ
 simp only at hJ
 have hfo:=hJo _ _ hJ
 simp only
 refine ⟨{o:Option (Int×Value)//NxtI lm ss o},fun o=>nxtV .u64 o.1,fun o=>[f,R,nxtF .u64 b r lm ss cur o.1],fun β w' ty hs=>hs.nextI 2 rfl ty,?_⟩
 rintro ⟨o,ho⟩
 cases o with
 | none=>
  have hperm:ss.Perm lm:=ho
  intro β w' hs
  exact ((hs.endI 2 rfl).keepB (List.nil_sublist _)).fin [0,2] ⟨f,_,rfl,.inl ⟨_,hJ,hperm.map _,rfl⟩⟩ rfl rfl rfl ⟨hfo,rfl,trivial⟩
 | some x=>
  have hlt:ss.length<lm.length:=ho.2
  refine ⟨Unit,fun _=> .tuple #[.int .u64 x.1,x.2],fun _=>[f,R,itIF .u64 b r lm (ss++[x]) (some x)],fun β w' ty hs=>⟨(),w',hs.entryI 2 rfl,hs⟩,fun _=>?_⟩
  refine z_dF (X:=noF) (x:=x.1) hY 0 1 rfl hJ hfo rfl hRo (by decide) (fun β=>⟨rfl,rfl,by rw [List.length_map];exact hlt⟩) rfl (fun β w _=>⟨trivial,fun k hk=>hk.elim,fun k _ h=>h.elim⟩) ?_ ?_
  ·intro f2 hfo2 hJ2
   refine ⟨(ss++[x],f2,some x),by show J ((ss++[x]).map (·.1)) f2;rw [List.map_append];exact hJ2,by show lm.length - (ss++[x]).length<lm.length - ss.length;rw [List.length_append];show lm.length - (ss.length+1)<_;omega,Ent.same ⟨rfl,rfl,rfl,trivial⟩ rfl⟩
  ·intro f2 hfo2 hJ2 β w' hs
   exact ((hs.endI 2 rfl).keepB (List.nil_sublist _)).fin [0,2] ⟨f2,_,rfl,.inr ⟨_,hJ2,rfl⟩⟩ rfl rfl rfl ⟨hfo2,rfl,trivial⟩
theorem z_wz (w:World) (mb:Option Nat):Con Tryz.prog 36 #[.map mb] w [] fun v Fs=> ∃B,v= .func (.func 62) #[] #[.pointer (some ⟨B,0,none⟩)]/\Fs=[bkF B z_az [.map mb]]:=by
 refine z_ac (cx:=z_bb w (Un [])) (z_b4 w (Un [])) z_cC rfl rfl (β:=Va.z) [.c (.v (.map mb))] 0 [] [] rfl rfl (Sat.start rfl) ?_
 intro β w' hs
 exact hs.ofBk.fin [0] ⟨β 0,rfl,rfl⟩
theorem z_uY (l:Nat) (w:World) (bx b:Nat) (lm:MLI) (f0 R:Fact) (J Jx:List Int->Fact->Prop) (hJ0:J [] f0) (hJo: ∀pre f,J pre f->f.own=true) (hRo:R.own=false) (hY:Yc Tryz.prog l J Jx R (insK lm.length))
  (hm:Mem w (f0::R::[bkF bx z_az [.map (some b)],mapIF .u64 b lm])):
  Con Tryz.prog 62 #[.func (.yield l) #[] #[],.pointer (some ⟨bx,0,none⟩)] w [f0,bkF bx z_az [.map (some b)],mapIF .u64 b lm]
   (fun _ Fs=> ∃f Fs',Fs=f::Fs'/\((∃xs,J xs f/\xs.Perm (lm.map (·.1))/\Fs'=[mapIF .u64 b lm])\/(∃pre,Jx pre f/\Fs'=[mapIF .u64 b lm]))):=by
 have g:=z_bO w (Un [f0,bkF bx z_az [.map (some b)],mapIF .u64 b lm]) [bx]
 have hs0:Sat (z_aI w (Un [f0,bkF bx z_az [.map (some b)],mapIF .u64 b lm]) [bx]) (Va.of fun _=>bx) 1 [] (f0::R::[bkF bx z_az [.map (some b)],mapIF .u64 b lm]) w:=by
  refine hm.sat rfl (fun f hf ho k hk=>?_) ⟨Nat.le_refl 1,fun i hi=>by obtain rfl:i=0:=Nat.lt_one_iff.1 hi;rfl⟩
  simp only [List.mem_cons,List.not_mem_nil,or_false] at hf
  rcases hf with rfl | rfl | rfl | rfl
  ·exact ⟨_,by simp,hk⟩
  ·rw [hRo] at ho;cases ho
  ·exact ⟨bkF bx z_az [.map (some b)],by simp,hk⟩
  ·exact ⟨mapIF .u64 b lm,by simp,hk⟩
 have hs1:=hs0.toBk 2 rfl 0 Nat.zero_lt_one rfl
 refine z_ac (cx:=z_aI w (Un [f0,bkF bx z_az [.map (some b)],mapIF .u64 b lm]) [bx]) g z_cd rfl rfl (β:=Va.of fun _=>bx) [.c (.v (.func (.yield l) #[] #[])),.c (.p 0 0)] 1 _ _ rfl rfl hs1 ?_
 refine ⟨Nat,fun r=> .pointer (some ⟨r,0,none⟩),fun r=>[f0,R,itIF .u64 b r lm [] none],fun β w' ty hs=>hs.rangeI g 2 rfl,fun r=>?_⟩
 refine z_ag (ι:=MLI×Fact×Option (Int×Value)) 1 (fun _=>[(0,.c (.v (.func (.yield l) #[] #[]))),(1,.c (.p 0 0)),(5,.c (.v (.pointer (some ⟨r,0,none⟩))))]) (fun _=>[⟨0,z_az,[.v (.map (some b))]⟩]) (fun i=>[i.2.1,R,itIF .u64 b r lm i.1 i.2.2])
  (fun i=>J (i.1.map (·.1)) i.2.1) (fun i=>lm.length - i.1.length) ([],f0,none) hJ0 (Ent.same ⟨rfl,rfl,rfl,trivial⟩ rfl) g ?_
 rintro ⟨ss,f,cur⟩ hJ
 simp only at hJ
 have hfo:=hJo _ _ hJ
 simp only
 refine ⟨{o:Option (Int×Value)//NxtI lm ss o},fun o=>nxtV .u64 o.1,fun o=>[f,R,nxtF .u64 b r lm ss cur o.1],fun β w' ty hs=>hs.nextI 2 rfl ty,?_⟩
 rintro ⟨o,ho⟩
 cases o with
 | none=>
  have hperm:ss.Perm lm:=ho
  intro β w' hs
  exact ((hs.endI 2 rfl).keepB (List.nil_sublist _)).fin [0,2] ⟨f,_,rfl,.inl ⟨_,hJ,hperm.map _,rfl⟩⟩ rfl rfl rfl ⟨hfo,rfl,trivial⟩
 | some x=>
  have hlt:ss.length<lm.length:=ho.2
  refine ⟨Unit,fun _=> .tuple #[.int .u64 x.1,x.2],fun _=>[f,R,itIF .u64 b r lm (ss++[x]) (some x)],fun β w' ty hs=>⟨(),w',hs.entryI 2 rfl,hs⟩,fun _=>?_⟩
  refine z_dF (X:=noF) (x:=x.1) hY 0 1 rfl hJ hfo rfl hRo (by decide) (fun β=>⟨rfl,rfl,by rw [List.length_map];exact hlt⟩) rfl (fun β w _=>⟨trivial,fun k hk=>hk.elim,fun k _ h=>h.elim⟩) ?_ ?_
  ·intro f2 hfo2 hJ2
   refine ⟨(ss++[x],f2,some x),by show J ((ss++[x]).map (·.1)) f2;rw [List.map_append];exact hJ2,by show lm.length - (ss++[x]).length<lm.length - ss.length;rw [List.length_append];show lm.length - (ss.length+1)<_;omega,Ent.same ⟨rfl,rfl,rfl,trivial⟩ rfl⟩
  ·intro f2 hfo2 hJ2 β w' hs
   exact ((hs.endI 2 rfl).keepB (List.nil_sublist _)).fin [0,2] ⟨f2,_,rfl,.inr ⟨_,hJ2,rfl⟩⟩ rfl rfl rfl ⟨hfo2,rfl,trivial⟩
end Go.Proofs.YtfomhhkoamapmaaGreatDoor.Sx
namespace Go.Proofs.YtfomhhkoamapmaaGreatDoor.Sx
open Go
def swp (l:List Int) (i j:Nat):List Int:=(l.set i (at0 l j)).set j (at0 l i)
theorem z_lE (l:List Int) (i j:Nat):(swp l i j).length=l.length:=by simp [swp]
theorem z_bI {l:List Int} {i j:Nat} (h1:i<l.length) (h2:j<l.length) (q:Nat):at0 (swp l i j) q=if q=j then at0 l i else if q=i then at0 l j else at0 l q:=by
 unfold swp at0
 simp only [List.getD_eq_getElem?_getD,List.getElem?_set,List.length_set]
 by_cases a:q=j
 ·subst a
  simp [h2]
 ·have a': ¬j=q:=fun h=>a h.symm
  by_cases b:q=i
  ·subst b
   simp [h1,a,a']
  ·have b': ¬i=q:=fun h=>b h.symm
   simp [a,a',b,b']
theorem z_po {l:List Int} {q:Nat} (h:q<l.length):at0 l q=l[q]:=by simp [at0,List.getD,h]
theorem z_wB {l:List Int} {i j:Nat} (h1:i<l.length) (h2:j<l.length):(swp l i j).Perm l:=by
 unfold swp
 rw [z_po h1,z_po h2]
 exact List.set_set_perm h1 h2
structure Seg (l l':List Int) (a b:Nat):Prop where
 len:l'.length=l.length
 out: ∀q,q<a\/b<=q->at0 l' q=at0 l q
 perm:l'.Perm l
theorem Seg.refl (l:List Int) (a b:Nat):Seg l l a b:=⟨rfl,fun _ _=>rfl,List.Perm.refl _⟩
theorem Seg.trans {l l' l'':List Int} {a b:Nat} (h:Seg l l' a b) (k:Seg l' l'' a b):Seg l l'' a b:=⟨k.len.trans h.len,fun q hq=>(k.out q hq).trans (h.out q hq),k.perm.trans h.perm⟩
theorem Seg.wide {l l':List Int} {a b a' b':Nat} (h:Seg l l' a b) (ha:a'<=a) (hb:b<=b'):Seg l l' a' b':=⟨h.len,fun q hq=>h.out q (by omega),h.perm⟩
theorem Seg.swp {l:List Int} {a b i j:Nat} (hb:b<=l.length) (hi:a<=i) (hi2:i<b) (hj:a<=j) (hj2:j<b):Seg l (swp l i j) a b:=
 ⟨z_lE l i j,fun q hq=>by rw [z_bI (by omega) (by omega),if_neg (by omega),if_neg (by omega)],z_wB (by omega) (by omega)⟩
theorem ext0 {l l':List Int} (h:l'.length=l.length) (k: ∀q,q<l.length->at0 l' q=at0 l q):l'=l:=by
 refine List.ext_getElem h (fun q h1 h2=>?_)
 rw [<-z_po h1,<-z_po h2]
 exact k q h2
theorem Seg.all {l l':List Int} {a b:Nat} (h:Seg l l' a b) (hab:a<=b) (hb:b<=l.length) {P:Int->Prop} (hP: ∀q,a<=q->q<b->P (at0 l q)): ∀q,a<=q->q<b->P (at0 l' q):=by
 have e1:l'.take a=l.take a:=by
  refine ext0 (by rw [List.length_take,List.length_take,h.len]) (fun q hq=>?_)
  rw [List.length_take] at hq
  have k:=h.out q (by omega)
  have hl:=h.len
  simp only [at0,List.getD_eq_getElem?_getD,List.getElem?_take] at k ⊢
  rw [if_pos (by omega),if_pos (by omega),k]
 have e2:l'.drop b=l.drop b:=by
  refine ext0 (by rw [List.length_drop,List.length_drop,h.len]) (fun q hq=>?_)
  have k:=h.out (b+q) (by omega)
  simp only [at0,List.getD_eq_getElem?_getD,List.getElem?_drop] at k ⊢
  exact k
 have d: ∀m:List Int,m=m.take a++((m.drop a).take (b - a)++m.drop b):=fun m=>by
  have h1:(m.drop a).drop (b - a)=m.drop b:=by rw [List.drop_drop];congr 1;omega
  rw [<-h1,List.take_append_drop,List.take_append_drop]
 have hp:=h.perm
 rw [d l',d l,e1,e2,List.perm_append_left_iff,List.perm_append_right_iff] at hp
 intro q h1 h2
 have hl:=h.len
 have m1:at0 l' q∈(l'.drop a).take (b - a):=by
  rw [z_po (by omega)]
  refine List.mem_of_getElem? (i:=q - a) ?_
  rw [List.getElem?_take,if_pos (by omega),List.getElem?_drop,show a+(q - a)=q by omega,List.getElem?_eq_getElem]
 have m2:=hp.subset m1
 obtain ⟨i,hi⟩:=List.getElem?_of_mem m2
 rw [List.getElem?_take] at hi
 split at hi
 ·rw [List.getElem?_drop] at hi
  have hil:=(List.getElem?_eq_some_iff.1 hi).1
  have:=hP (a+i) (by omega) (by omega)
  rw [at0,List.getD_eq_getElem?_getD,hi] at this
  exact this
 ·cases hi
def Rise (l:List Int) (a b:Nat):Prop:= ∀p q,a<=p->p<q->q<b->at0 l p<=at0 l q
theorem Rise.one (l:List Int) {a b:Nat} (h:b<=a+1):Rise l a b:=fun p q h1 h2 h3=>by omega
theorem Seg.rise {l l':List Int} {a b a' b':Nat} (h:Seg l l' a b) (hd:b'<=a\/b<=a') (hr:Rise l a' b'):Rise l' a' b':=fun p q h1 h2 h3=>by
 rw [h.out p (by omega),h.out q (by omega)]
 exact hr p q h1 h2 h3
end Go.Proofs.YtfomhhkoamapmaaGreatDoor.Sx
namespace Go.Proofs.YtfomhhkoamapmaaGreatDoor.Sx
open Go
attribute [local irreducible] Calls
theorem z_yn (ys:List Int) (i j:Nat):(swp ys i j).map (Value.int .u64)=putAll (putAll (ys.map (Value.int .u64)) (i*1) [.int .u64 (at0 ys j)]) (j*1) [.int .u64 (at0 ys i)]:=by
 rw [uset,uset]
 rfl
theorem Sat.swp {cx:Cx} {β:Va} {n:Nat} {H:List Bk} {F:List Fact} {w:World} {A:Option Addr} {ys:List Int} {c i j:Nat} (h:Sat cx β n H (rowF z_aA 1 (.slice A ys.length c) ys.length (putAll (putAll (ys.map (Value.int .u64)) (i*1) [.int .u64 (at0 ys j)]) (j*1) [.int .u64 (at0 ys i)])::F) w):Sat cx β n H (urowF A (swp ys i j) c::F) w:=by
 show Sat _ _ _ _ (rowF z_aA 1 (.slice A (Sx.swp ys i j).length c) (Sx.swp ys i j).length ((Sx.swp ys i j).map (Value.int .u64))::F) _
 rw [z_lE,z_yn]
 exact h
theorem ucell {cx:Cx} {β:Va} {w':World} {n:Nat} {H:List Bk} {F:List Fact} {ad:Addr} {ys:List Int} {N c q:Nat} (hN:ys.length=N) (hq:q<N) (hs:Sat cx β n H (urowF (some ad) ys c::F) w'):w'.cell? (ad.add (q*1))=some (.int .u64 (at0 ys q)):=
 Rd.cell1 (z_aj (hs.get 0 rfl)) (by rw [List.getElem?_map,z_p8 (by omega)];rfl)
theorem z_dY {w:World} {A:Option Addr} {l:List Int} {c:Nat} (h:(urowF A l c).p w) (h0:0<l.length): ∃g0,A=some ⟨g0,0,none⟩:=by
 have ho:w.ownsRow 0 z_aA 1 (.slice A l.length c) l.length (l.map (Value.int .u64)):=h
 rcases ho.2 with ⟨_,h1⟩ | ⟨g0,cap,cur,hv,_⟩
 ·exact absurd h1 (by omega)
 ·injection hv with q _ _
  exact ⟨g0,q⟩
structure RvS where
 ys:List Int
 i:Nat
 j:Int
theorem z_zs (w:World) (A:Option Addr) (l:List Int) (c a b:Nat) (hl:l.length<=1000000) (hab:a<=b) (hb:b<=l.length) (hm:Mem w [urowF A l c]):
  Con Tryz.prog z_bo #[.slice A l.length c,.int .i64 (a:Int),.int .i64 (b:Int)] w [urowF A l c] fun v Fs=>v= .tuple #[]/\ ∃l',Seg l l' a b/\Fs=[urowF A l' c]:=by
 have g:=z_cO w (Un [urowF A l c])
 have hA:=z_dY (hm.fact _ List.mem_cons_self:(urowF A l c).p w)
 refine z_dN (cx:=z_aU w (Un [urowF A l c])) g z_da [.c (.v (.slice A l.length c)),.c (.v (.int .i64 (a:Int))),.c (.v (.int .i64 (b:Int)))] [] hm ?_
 refine ⟨(b:Int) - 1,by rw [wrap_i64 (by omega) (by omega)],?_⟩
 obtain ⟨N,hN⟩: ∃N,l.length=N:=⟨_,rfl⟩
 rw [hN] at hl hb hA ⊢
 refine z_ag (ι:=RvS) 0 (fun s=>[(0,.c (.v (.slice A N c))),(6,.c (.v (.int .i64 (s.i:Int)))),(7,.c (.v (.int .i64 s.j)))]) (fun _=>[]) (fun s=>[urowF A s.ys c])
  (fun s=>Seg l s.ys a b/\a<=s.i/\s.j<b/\ -1<=s.j) (fun s=>b - s.i) ⟨l,a,(b:Int) - 1⟩ ⟨Seg.refl _ _ _,Nat.le_refl _,by show (b:Int) - 1<b;omega,by show -1<=(b:Int) - 1;omega⟩ (Ent.mk' ⟨rfl,rfl,rfl,trivial⟩ rfl (fun β w' hs=>hs)) g ?_
 rintro ⟨ys,i,j⟩ ⟨hy,hi,hj,hj1⟩
 simp only at hy hi hj hj1
 have hyl:ys.length=N:=by rw [hy.len,hN]
 refine BIf.dec (fun hlt=>?_) (fun hge=>?_)
 ·have hlt:(i:Int)<j:=hlt
  obtain ⟨j,rfl⟩: ∃k:Nat,j=(k:Int):=Int.eq_ofNat_of_zero_le (by omega)
  obtain ⟨g0,rfl⟩:=hA (by omega)
  have hS: ∀ {n:Nat} {H:List Bk} {F:List Fact},Sub (z_aU w (Un [urowF (some ⟨g0,0,none⟩) l c])) n H F [] []:=fun {n H F}=>Sub.of (List.nil_sublist _) (List.nil_sublist _)
  refine z_af g z_cX (by kernel_rfl) [] [] hS ?_
  refine ⟨⟨g0,0,none⟩,j,rfl,rfl,by omega,?_⟩
  refine ⟨⟨g0,0,none⟩,i,rfl,rfl,by omega,?_⟩
  refine ⟨?_,?_⟩
  ·refine ⟨.int .u64 (at0 ys (j)),fun β w' hs=>ucell hyl (by omega) hs,?_⟩
   refine ⟨hS,?_⟩
   refine ⟨.int .u64 (at0 ys (i)),fun β w' hs=>ucell hyl (by omega) hs,?_⟩
   refine ⟨hS,?_⟩
   refine ⟨⟨g0,0,none⟩,i,rfl,rfl,by omega,?_⟩
   refine ⟨_,fun β w' hs=>Sat.rowSet hs (j:=0) (us:=[.int .u64 (at0 ys (j))]) rfl (by show (i)*1+1<=ys.length*1;omega) (fun u hu=>by obtain rfl:=List.mem_singleton.1 hu;rfl),?_⟩
   refine ⟨hS,?_⟩
   refine ⟨⟨g0,0,none⟩,j,rfl,rfl,by omega,?_⟩
   refine ⟨_,fun β w' hs=>Sat.rowSet hs (j:=0) (us:=[.int .u64 (at0 ys (i))]) rfl (by show (j)*1+1<=ys.length*1;omega) (fun u hu=>by obtain rfl:=List.mem_singleton.1 hu;rfl),?_⟩
   refine ⟨hS,?_⟩
   refine ⟨(((i+1):Nat):Int),by rw [wrap_i64 (by first | omega | (dsimp only;omega)) (by first | omega | (dsimp only;omega))];rfl,?_⟩
   refine ⟨(j:Int) - 1,by rw [wrap_i64 (by first | omega | (dsimp only;omega)) (by first | omega | (dsimp only;omega))],?_⟩
   exact ⟨⟨swp ys i j,i+1,(j:Int) - 1⟩,⟨hy.trans (Seg.swp (by omega) hi (by omega) (by omega) (by omega)),by show a<=i+1;omega,by show (j:Int) - 1<b;omega,by show -1<=(j:Int) - 1;omega⟩,by show b - (i+1)<b - i;omega,Ent.mk' ⟨rfl,rfl,rfl,trivial⟩ rfl (fun β w' hs=>hs.swp)⟩
  ·refine ⟨.int .u64 (at0 ys (i)),fun β w' hs=>ucell hyl (by omega) hs,?_⟩
   refine ⟨hS,?_⟩
   refine ⟨.int .u64 (at0 ys (j)),fun β w' hs=>ucell hyl (by omega) hs,?_⟩
   refine ⟨hS,?_⟩
   refine ⟨⟨g0,0,none⟩,i,rfl,rfl,by omega,?_⟩
   refine ⟨_,fun β w' hs=>Sat.rowSet hs (j:=0) (us:=[.int .u64 (at0 ys (j))]) rfl (by show (i)*1+1<=ys.length*1;omega) (fun u hu=>by obtain rfl:=List.mem_singleton.1 hu;rfl),?_⟩
   refine ⟨hS,?_⟩
   refine ⟨⟨g0,0,none⟩,j,rfl,rfl,by omega,?_⟩
   refine ⟨_,fun β w' hs=>Sat.rowSet hs (j:=0) (us:=[.int .u64 (at0 ys (i))]) rfl (by show (j)*1+1<=ys.length*1;omega) (fun u hu=>by obtain rfl:=List.mem_singleton.1 hu;rfl),?_⟩
   refine ⟨hS,?_⟩
   refine ⟨(((i+1):Nat):Int),by rw [wrap_i64 (by first | omega | (dsimp only;omega)) (by first | omega | (dsimp only;omega))];rfl,?_⟩
   refine ⟨(j:Int) - 1,by rw [wrap_i64 (by first | omega | (dsimp only;omega)) (by first | omega | (dsimp only;omega))],?_⟩
   exact ⟨⟨swp ys i j,i+1,(j:Int) - 1⟩,⟨hy.trans (Seg.swp (by omega) hi (by omega) (by omega) (by omega)),by show a<=i+1;omega,by show (j:Int) - 1<b;omega,by show -1<=(j:Int) - 1;omega⟩,by show b - (i+1)<b - i;omega,Ent.mk' ⟨rfl,rfl,rfl,trivial⟩ rfl (fun β w' hs=>hs.swp)⟩
 ·exact fun β w' hs=>(hs.keepB (List.nil_sublist _)).fin [0] ⟨rfl,ys,hy,rfl⟩ rfl rfl rfl ⟨rfl,trivial⟩
def udF (A:Option Addr) (l:List Int):Fact:=rdF 1 A l.length (l.map (Value.int .u64))
theorem udcell {ad:Addr} {ys:List Int} {N q:Nat} {w':World} (hN:ys.length=N) (hq:q<N) (hs:(udF (some ad) ys).p w'):w'.cell? (ad.add (q*1))=some (.int .u64 (at0 ys q)):=
 Rd.cell1 (hs:Rd 1 (some ad) ys.length _ w') (by rw [List.getElem?_map,z_p8 (by omega)];rfl)
theorem z_ux (w:World) (ad:Addr) (l:List Int) (c i j pb k:Nat) (_hl:l.length<=1000000) (hi:i<l.length) (hj:j<l.length) (hk:k<=1000) (hm:Mem w [bkF pb z_bE [.int .i64 (k:Int)],udF (some ad) l]):
  Con Tryz.prog z_b7 #[.slice (some ad) l.length c,.int .i64 (i:Int),.int .i64 (j:Int),.pointer (some ⟨pb,0,none⟩)] w [bkF pb z_bE [.int .i64 (k:Int)]] fun v Fs=> ∃i' j' k':Nat,v= .tuple #[.int .i64 (i':Int),.int .i64 (j':Int)]/\((i'=i/\j'=j)\/(i'=j/\j'=i))/\k'<=k+1/\Fs=[bkF pb z_bE [.int .i64 (k':Int)]]:=by
 have g:=z_d4 w (Un [bkF pb z_bE [.int .i64 (k:Int)]])
 refine z_dN (cx:=z_bS w (Un [bkF pb z_bE [.int .i64 (k:Int)]])) g z_e5 [.c (.v (.slice (some ad) l.length c)),.c (.v (.int .i64 (i:Int))),.c (.v (.int .i64 (j:Int))),.c (.v (.pointer (some ⟨pb,0,none⟩)))] [udF (some ad) l] hm ?_
 refine z_af g z_ei (by kernel_rfl) [] [udF (some ad) l] (Sub.of (List.nil_sublist _) (((List.nil_sublist _).cons_cons _).cons _)) ?_
 refine ⟨ad,j,rfl,rfl,hj,?_⟩
 refine ⟨.int .u64 (at0 l j),fun β w' hs=>udcell rfl hj (hs.get 0 rfl),?_⟩
 refine ⟨ad,i,rfl,rfl,hi,?_⟩
 refine ⟨.int .u64 (at0 l i),fun β w' hs=>udcell rfl hi (hs.get 0 rfl),?_⟩
 obtain ⟨bb,hbb⟩: ∃bb,decide (at0 l j<at0 l i)=bb:=⟨_,rfl⟩
 refine z_ah (v:= .bool bb) (fun β w' hs=>by rw [<-hbb];exact z_el w' _ _) ?_
 refine ⟨subPerm [1],?_⟩
 cases bb with
 | true=>
  refine ⟨.int .i64 (k:Int),fun β w' hs=>z_ai (hs.get 0 rfl) (o:=0) rfl,?_⟩
  refine ⟨(((k+1):Nat):Int),by rw [wrap_i64 (by omega) (by omega)];rfl,?_⟩
  refine ⟨_,fun β w' hs=>hs.bkSet 0 (o:=0) (us:=[.int .i64 ((k+1:Nat):Int)]) rfl (Nat.le_refl 1) (fun u hu=>by obtain rfl:=List.mem_singleton.1 hu;rfl),?_⟩
  exact fun β w' hs=>(hs.keepB (List.nil_sublist _)).fin [0] ⟨j,i,k+1,rfl,.inr ⟨rfl,rfl⟩,Nat.le_refl _,rfl⟩
 | false=>
  exact fun β w' hs=>(hs.keepB (List.nil_sublist _)).fin [0] ⟨i,j,k,rfl,.inl ⟨rfl,rfl⟩,Nat.le_succ _,rfl⟩
theorem med_c (w:World) (ad:Addr) (l:List Int) (c x y z pb k:Nat) (hl:l.length<=1000000) (hx:x<l.length) (hy:y<l.length) (hz:z<l.length) (hk:k<=900) (hm:Mem w [bkF pb z_bE [.int .i64 (k:Int)],udF (some ad) l]):
  Con Tryz.prog z_b5 #[.slice (some ad) l.length c,.int .i64 (x:Int),.int .i64 (y:Int),.int .i64 (z:Int),.pointer (some ⟨pb,0,none⟩)] w [bkF pb z_bE [.int .i64 (k:Int)]] fun v Fs=> ∃m k':Nat,v= .int .i64 (m:Int)/\(m=x\/m=y\/m=z)/\Fs=[bkF pb z_bE [.int .i64 (k':Int)]]:=by
 have g:=z_d1 w (Un [bkF pb z_bE [.int .i64 (k:Int)]])
 refine z_dN (cx:=z_bP w (Un [bkF pb z_bE [.int .i64 (k:Int)]])) g z_e0 [.c (.v (.slice (some ad) l.length c)),.c (.v (.int .i64 (x:Int))),.c (.v (.int .i64 (y:Int))),.c (.v (.int .i64 (z:Int))),.c (.v (.pointer (some ⟨pb,0,none⟩)))] [udF (some ad) l] hm ?_
 refine z_aa [0] (fun β w' hs=>z_ux w' ad l c x y pb k hl hx hy (by omega) (hs.mem.take (js:=[0,1]) rfl)) ?_
 rintro v Fs ⟨x1,y1,k1,rfl,h1,hk1,rfl⟩
 refine z_aa [0] (fun β w' hs=>z_ux w' ad l c y1 z pb k1 hl (by omega) hz (by omega) (hs.mem.take (js:=[0,1]) rfl)) ?_
 rintro v Fs ⟨y2,z2,k2,rfl,h2,hk2,rfl⟩
 refine z_aa [0] (fun β w' hs=>z_ux w' ad l c x1 y2 pb k2 hl (by omega) (by omega) (by omega) (hs.mem.take (js:=[0,1]) rfl)) ?_
 rintro v Fs ⟨x3,y3,k3,rfl,h3,hk3,rfl⟩
 exact fun β w' hs=>(hs.keepB (List.nil_sublist _)).fin [0] ⟨y3,k3,rfl,by omega,rfl⟩
theorem z_yK (w:World) (A:Option Addr) (l:List Int) (c a b:Nat) (hl:l.length<=1000000) (hab:a+8<=b) (hab2:b<a+50) (hb:b<=l.length) (hm:Mem w [udF A l]):
  Con Tryz.prog z_bt #[.slice A l.length c,.int .i64 (a:Int),.int .i64 (b:Int)] w [] fun v Fs=>(∃(p:Nat) (h:Int),v= .tuple #[.int .i64 (p:Int),.int .i64 h]/\a<=p/\p<b)/\Fs=[]:=by
 have g:=z_cZ w (Un [])
 obtain ⟨ad,rfl⟩: ∃ad,A=some ad:=by
  obtain ⟨ad,q,_⟩:=(hm.fact _ List.mem_cons_self:Rd 1 A l.length _ w).2 (by omega)
  exact ⟨ad,q⟩
 refine z_cx (cx:=z_bn w (Un [])) g z_dC [.c (.v (.slice (some ad) l.length c)),.c (.v (.int .i64 (a:Int))),.c (.v (.int .i64 (b:Int)))] [udF (some ad) l] hm ?_
 refine z_ae g ?_
 refine z_ae g ?_
 refine ⟨((b - a:Nat):Int),by rw [wrap_i64 (by omega) (by omega)];omega,?_⟩
 refine z_ae g ?_
 refine z_fI 0 (fun _=>[.int .i64 ((0:Nat):Int)]) rfl rfl (fun _=>rfl) (fun pb=>?_)
 obtain ⟨d,hd⟩: ∃d,(b - a)/4=d:=⟨_,rfl⟩
 refine z_ae g ?_
 refine ⟨by first | decide | omega,?_⟩
 refine ⟨(d:Int),by rw [show ((b - a:Nat):Int).tdiv 4=(d:Int) from by rw [<-hd];exact Int.ofNat_tdiv _ _,wrap_i64 (by omega) (by omega)],?_⟩
 refine ⟨((d*1:Nat):Int),by rw [wrap_i64 (by omega) (by omega)];omega,?_⟩
 refine ⟨((a+d*1:Nat):Int),by rw [wrap_i64 (by omega) (by omega)];omega,?_⟩
 refine z_ae g ?_
 refine ⟨by first | decide | omega,?_⟩
 refine ⟨(d:Int),by rw [show ((b - a:Nat):Int).tdiv 4=(d:Int) from by rw [<-hd];exact Int.ofNat_tdiv _ _,wrap_i64 (by omega) (by omega)],?_⟩
 refine ⟨((d*2:Nat):Int),by rw [wrap_i64 (by omega) (by omega)];omega,?_⟩
 refine ⟨((a+d*2:Nat):Int),by rw [wrap_i64 (by omega) (by omega)];omega,?_⟩
 refine z_ae g ?_
 refine ⟨by first | decide | omega,?_⟩
 refine ⟨(d:Int),by rw [show ((b - a:Nat):Int).tdiv 4=(d:Int) from by rw [<-hd];exact Int.ofNat_tdiv _ _,wrap_i64 (by omega) (by omega)],?_⟩
 refine ⟨((d*3:Nat):Int),by rw [wrap_i64 (by omega) (by omega)];omega,?_⟩
 refine ⟨((a+d*3:Nat):Int),by rw [wrap_i64 (by omega) (by omega)];omega,?_⟩
 refine z_aM (ι:=Nat×Nat) g (fun j=>a<=j.1/\j.1<b) 1 (fun j=>[(9,.c (.v (.pointer (some ⟨pb,0,none⟩)))),(11,.c (.v (.int .i64 (j.1:Int))))]) (fun _=>[]) (fun j=>[bkF pb z_bE [.int .i64 (j.2:Int)]]) ?_ ?_
 rotate_left
 ·refine BIf.dec (fun _=>?_) (fun h=>absurd (show (8:Int)<=((b - a:Nat):Int) by omega) h)
  refine BIf.dec (fun h=>absurd (show (50:Int)<=((b - a:Nat):Int) from h) (by omega)) (fun _=>?_)
  refine z_aa [0] (fun β w' hs=>med_c w' ad l c (a+d*1) (a+d*2) (a+d*3) pb 0 hl (by omega) (by omega) (by omega) (by decide) (hs.mem.take (js:=[0,1]) rfl)) ?_
  rintro v Fs ⟨m,k',rfl,hm3,rfl⟩
  exact EntX.of (m,k') ⟨by show a<=m;omega,by show m<b;omega⟩ (Ent.mk' ⟨rfl,rfl,trivial⟩ rfl (fun β w' hs=>(hs.keepB (List.nil_sublist _)).perm [0]))
 rintro ⟨p,k⟩ ⟨h1,h2⟩
 refine z_ae g ?_
 refine ⟨.int .i64 (k:Int),fun β w' hs=>z_ai (hs.get 0 rfl) (o:=0) rfl,?_⟩
 refine z_aQ g ?_
 refine BIf.dec (fun _=>?_) (fun _=>?_)
 ·exact fun β w' hs=>(hs.keepB (List.nil_sublist _)).fin [] ⟨⟨p,_,rfl,h1,h2⟩,rfl⟩
 refine BIf.dec (fun _=>?_) (fun _=>?_)
 ·exact fun β w' hs=>(hs.keepB (List.nil_sublist _)).fin [] ⟨⟨p,_,rfl,h1,h2⟩,rfl⟩
 ·exact fun β w' hs=>(hs.keepB (List.nil_sublist _)).fin [] ⟨⟨p,_,rfl,h1,h2⟩,rfl⟩
end Go.Proofs.YtfomhhkoamapmaaGreatDoor.Sx
