/- Texts joined: Tkc, Rv3, Ten, Ten2, UsE, CrP, UsG, TnR, UsR, Rl6, Rm1, Rm4, Rv4, Rv5, Rw1, Rv2, Rm2, JnQ, Rv6, Rw2, Rm5, Rl3, Rm6, Rv7, Rv8, Rl8, Rl9, Rv9, Rw3, Rw4, R14l. -/
import Derived.Test.YtloeaiafphkjnaaGreatDoorMRollTurned5
import Derived.Test.YtloeaiafphkjnaaGreatDoorMRollTurned3
import Derived.Test.YtloeaiafphkjnaaGreatDoorMRollTurned2
import Derived.Test.YtloeaiafphkjnaaGreatDoorMRollTurned4
set_option linter.unusedVariables false
set_option linter.unusedSimpArgs false
namespace Go.Proofs.YtloeaiafphkjnaaGreatDoor.Sx
open Go
attribute [local irreducible] Calls
def insTri (A:Option Addr) (p:List UInt8) (pre:List (List UInt8)) (x:List UInt8) (args:Array Value) (X:Fact):Prop:= ∃A',args= #[.slice A' x.length x.length]/\X=noF/\Lies A A' p x/\(triL p)[pre.length]?=some x
def triEnd (L:List (List UInt8)) (J Jx:List (List UInt8)->Fact->Prop) (Fs:List Fact):Prop:=
 ∃f Fs',Fs=f::Fs'/\((∃xs,J xs f/\xs=L/\Fs'=[])\/(∃pre,Jx pre f/\Fs'=[]))
theorem z_x8 (l:Nat) (w:World) (bs:Nat) (A:Option Addr) (p:List UInt8) (c:Nat) (hc:p.length<=c) (hL:p.length<=1000000) (f0 R:Fact) (J Jx:List (List UInt8)->Fact->Prop) (hJ0:J [] f0) (hJo: ∀pre f,J pre f->f.own=true) (hRo:R.own=false) (hY:Yc Tryz.prog l J Jx R (insTri A p))
  (hm:Mem w (f0::R::[bkF bs z_al [.slice A p.length c]])):
  Con Tryz.prog z_eu #[.func (.yield l) #[] #[],.pointer (some ⟨bs,0,none⟩)] w [f0,bkF bs z_al [.slice A p.length c]] (fun _ Fs=>triEnd (triL p) J Jx Fs):=by
 have g:=z_kB w (Un [f0,bkF bs z_al [.slice A p.length c]]) [bs]
 have hs0:Sat (z_dr w (Un [f0,bkF bs z_al [.slice A p.length c]]) [bs]) (Va.of fun i=>[bs].getD i 0) 1 [] (f0::R::[bkF bs z_al [.slice A p.length c]]) w:=by
  refine hm.sat rfl (fun f hf ho k hk=>?_) ⟨Nat.le_refl 1,fun i _=>rfl⟩
  simp only [List.mem_cons,List.not_mem_nil,or_false] at hf
  rcases hf with rfl | rfl | rfl
  ·exact ⟨_,by simp,hk⟩
  ·rw [hRo] at ho;cases ho
  ·exact ⟨bkF bs z_al [.slice A p.length c],by simp,hk⟩
 have hs1:=hs0.toBk 2 rfl 0 (by decide) rfl
 refine z_ac (cx:=z_dr w (Un [f0,bkF bs z_al [.slice A p.length c]]) [bs]) g z_m0 rfl rfl (β:=Va.of fun i=>[bs].getD i 0) [.c (.v (.func (.yield l) #[] #[])),.c (.p 0 0)] 1 _ _ rfl rfl hs1 ?_
 refine z_ai (ι:=(List UInt8×Option Addr×Nat)×List (List UInt8)×Fact) 1 (fun i=>[(0,.c (.v (.func (.yield l) #[] #[]))),(1,.c (.p 0 0))]) (fun i=>[⟨0,z_al,[.v (.slice i.1.2.1 i.1.1.length i.1.2.2)]⟩]) (fun i=>[i.2.2,R])
  (fun i=>J i.2.1 i.2.2/\triL p=i.2.1++triL i.1.1/\Lies A i.1.2.1 p i.1.1/\i.1.1.length<=i.1.2.2/\i.1.1.length<=1000000) (fun i=>i.1.1.length) ((p,A,c),[],f0) ⟨hJ0,rfl,Lies.refl A p,hc,hL⟩ (Ent.mk' ⟨rfl,rfl,trivial⟩ rfl (fun β w' hs=>hs)) g ?_
 rintro ⟨⟨r,B,d⟩,pre,f⟩ ⟨hJ,hpre,hin,hrd,hrl⟩
 simp only at hJ hpre hin hrd hrl
 have hfo:=hJo _ _ hJ
 simp only
 by_cases hr:r=[]
 ·subst hr
  rw [show triL []=[] from rfl,List.append_nil] at hpre
  intro β w' hs
  exact (hs.keepB (List.nil_sublist _)).fin [0] ⟨f,_,rfl,.inl ⟨pre,hJ,hpre.symm,rfl⟩⟩ rfl rfl rfl ⟨hfo,trivial⟩
 have hr0:0<r.length:=List.length_pos_iff.2 hr
 obtain ⟨m,hm⟩: ∃m:Nat,m=min r.length 3:=⟨_,rfl⟩
 have hmt:r.take m=r.take 3:=by
  rcases Nat.le_total r.length 3 with h | h
  ·rw [hm,Nat.min_eq_left h,List.take_length,List.take_of_length_le h]
  ·rw [hm,Nat.min_eq_right h]
 have hmd:r.drop m=r.drop 3:=by
  rcases Nat.le_total r.length 3 with h | h
  ·rw [hm,Nat.min_eq_left h,List.drop_length,List.drop_of_length_le h]
  ·rw [hm,Nat.min_eq_right h]
 have hml:(r.take 3).length=m:=by rw [<-hmt,List.length_take];omega
 have hdl:(r.drop 3).length=r.length - m:=by rw [<-hmd,List.length_drop]
 refine BIf.dec (fun _=>?_) (fun h=>absurd (show (0:Int)<(r.length:Int) by omega) h)
 refine ⟨(m:Int),by show min _ _=_;omega,?_⟩
 refine ⟨m,m,0,m,m,B,rfl,rfl,rfl,by omega,by omega,Nat.zero_le _,rfl,rfl,cutZ,?_⟩
 have hLx:(triL p)[pre.length]?=some (r.take 3):=by
  rw [hpre,z_rO hr,List.getElem?_append_right (Nat.le_refl _),Nat.sub_self]
  rfl
 refine z_bC (X:=noF) (x:=r.take 3) hY 0 1 rfl hJ hfo rfl hRo (by decide) (fun β=>⟨B,by rw [hml];rfl,rfl,hin.trans (hmt▸Lies.take B r m),hLx⟩) rfl (fun β w _=>⟨trivial,fun k hk=>hk.elim,fun k _ h=>h.elim⟩) ?_ ?_
 ·intro f2 hfo2 hJ2
  refine ⟨d,r.length,m,r.length - m,d - m,_,rfl,rfl,rfl,by omega,by omega,by omega,rfl,rfl,rfl,?_⟩
  refine ⟨((r.drop 3,cutA B d m 1,d - m),pre++[r.take 3],f2),⟨hJ2,?_,hin.trans (hmd▸Lies.drop hrd (by omega)),by show (r.drop 3).length<=d - m;omega,by show (r.drop 3).length<=_;omega⟩,by show (r.drop 3).length<r.length;omega,?_⟩
  ·show triL p=(pre++[r.take 3])++triL (r.drop 3)
   rw [hpre,z_rO hr,List.append_assoc]
   rfl
  ·simp only [hdl]
   exact Ent.mk' ⟨rfl,rfl,trivial⟩ rfl (fun β w' hs=>hs.perm [0,1])
 ·intro f2 hfo2 hJ2 β w' hs
  exact (hs.keepB (List.nil_sublist _)).fin [0] ⟨f2,_,rfl,.inr ⟨_,hJ2,rfl⟩⟩ rfl rfl rfl ⟨hfo2,trivial⟩
theorem z_t0 (w:World) (A:Option Addr) (n c:Nat):Con Tryz.prog z_kW #[.slice A n c] w [] (fun v Fs=> ∃bs,v= .func (.func z_eu) #[] #[.pointer (some ⟨bs,0,none⟩)]/\Fs=[bkF bs z_al [.slice A n c]]):=by
 refine z_ac (cx:=z_jb w (Un [])) (z_mc w (Un [])) z_o7 rfl rfl (β:=Va.z) [.c (.v (.slice A n c))] 0 [] [] rfl rfl (Sat.start rfl) ?_
 intro β w' hs
 exact hs.ofBk.fin [0] ⟨β 0,rfl,rfl⟩
theorem sizeB:(Tryz.prog.info? z_ah).map (·.size)=some 2:=by kernel_rfl
theorem liesB:liesAt Tryz.prog Tryz.prog.depth z_ah (2/Tryz.prog.cellsOf z_ah) 0 z_ah 1=true:=by kernel_rfl
set_option maxHeartbeats 1000000 in
set_option maxRecDepth 100000 in
theorem z_vz (b:Nat) (w:World) (h0:w.cell? ⟨b,0,none⟩=some (.pointer (some ⟨b,0,none⟩))):
  Calls Tryz.prog 82 #[.pointer (some ⟨b,0,none⟩)] w fun e w'=>e= .returned (.tuple #[])/\w'=w:=by
 obtain ⟨j,hj,_⟩:=Option.map_eq_some_iff.1 sizeB
 have t70:=Tryz.underlying67
 go_enter Tryz.func82,Tryz.ntmps82
 go_wp2
 rw [Lib.run_neq_ptr_same w _ t70 hj]
 go_wp2
 go_end0
 exact ⟨rfl,rfl⟩
set_option maxHeartbeats 1000000 in
set_option maxRecDepth 100000 in
theorem z_uk (b:Nat) (w:World) (h0:w.cell? ⟨b,0,none⟩=some (.pointer none)) (hsh:w.shape? b=some (z_ah,2)) (hfz:w.frozen? ⟨b,0,none⟩=false):
  Calls Tryz.prog 82 #[.pointer (some ⟨b,0,none⟩)] w fun e w'=>e= .returned (.tuple #[])/\w'=w.setCell ⟨b,0,none⟩ (.pointer (some ⟨b,0,none⟩)):=by
 obtain ⟨j,hj,hjs⟩:=Option.map_eq_some_iff.1 sizeB
 have t70:=Tryz.underlying67
 have t164:=Tryz.underlying191
 go_enter Tryz.func82,Tryz.ntmps82
 go_wp2
 rw [Lib.run_to_unsafe w ⟨b,0,none⟩ t70 t164 hj (by rw [hjs];decide) hsh (Nat.zero_lt_succ 1)]
 simp only [Result.andThen]
 rw [Oper.upon_value]
 go_wp2
 rw [run_callFunc_extern Tryz.func133 (by kernel_rfl) (by kernel_rfl) (by kernel_rfl) (e:=Extern.AbiNoEscape.same) (by kernel_rfl)]
 rw [Lib.run_noEscape]
 simp only [Result.andThen]
 rw [Oper.upon_value]
 go_wp2
 rw [Lib.run_from_unsafe w ⟨b,0,none⟩ t164 t70 hj hsh liesB]
 simp only [Result.andThen]
 rw [Oper.upon_value]
 go_wp2
 go_end0
 exact ⟨rfl,rfl⟩
theorem z_p5 (w:World) (b:Nat) (p x:Value) (hp:p= .pointer none\/p=selfV b) (h:(bkF b z_ah [p,x]).p w):
  Con Tryz.prog z_bz #[selfV b] w [bkF b z_ah [p,x]] fun v Fs=>v= .tuple #[]/\Fs=[bkF b z_ah [selfV b,x]]:=by
 have hb:w.heap[b]?=some (.cells #[p,x] z_ah (0,0)):=h
 have hlt:b<w.heap.size:=(Array.getElem?_eq_some_iff.1 hb).1
 have h0:w.cell? ⟨b,0,none⟩=some p:=by rw [cell_of_row w b 0 _ _ _ hb];rfl
 rcases hp with rfl | rfl
 ·refine z_bp (Calls.mono (z_uk b w h0 (by simp [World.shape?,hb]) (by simp [World.frozen?,hb])) ?_)
  rintro e w' ⟨rfl,rfl⟩
  have h2:=heap_setCell_same w b 0 #[.pointer none,x] z_ah (selfV b) hb
  refine ⟨_,rfl,z_oE (f':=bkF b z_ah [selfV b,x]) ⟨rfl,rfl⟩ ⟨rfl,rfl,rfl,by simp [World.setCell],fun k _ hk=>heap_setCell_other w _ k _ hk⟩ h2 rfl (fun k hk=>⟨hk,?_⟩)⟩
  obtain rfl:k=b:=hk
  simpa [World.setCell] using hlt
 ·refine z_bp (Calls.mono (z_vz b w h0) ?_)
  rintro e w' ⟨rfl,rfl⟩
  refine ⟨_,rfl,z_oE (f':=bkF b z_ah [selfV b,x]) ⟨rfl,rfl⟩ (Chg.refl _ _) h rfl (fun k hk=>⟨hk,?_⟩)⟩
  obtain rfl:k=b:=hk
  exact hlt
theorem z_uZ (w:World) (b:Nat) (p:Value) (A:Option Addr) (l:List UInt8) (c:Nat) (X:Option Addr) (xs:List UInt8) (cX:Nat) (hp:p= .pointer none\/p=selfV b) (hl:l.length<=10000000) (hx:xs.length<=10000000) (hm:Mem w (bldF b p A l c++[bsF X xs])):
  Con Tryz.prog z_ck #[selfV b,.slice X xs.length cX] w (bldF b p A l c) fun v Fs=>v= .tuple #[.int .i64 (xs.length:Int),.nilIface]/\ ∃A' c',Fs=bldF b (selfV b) A' (l++xs) c':=by
 have g:=z_eS w (Un (bldF b p A l c))
 have hml:=maxLen_eq
 refine z_eM (cx:=z_b8 w (Un (bldF b p A l c))) g z_f6 [.c (.v (selfV b)),.c (.v (.slice X xs.length cX))] [bsF X xs] hm ?_
 refine z_aa [0] (fun β w' hs=>z_p5 w' b p _ hp (hs.get 0 rfl)) ?_
 rintro v Fs ⟨rfl,rfl⟩
 refine ⟨.slice A l.length c,fun β w' hs=>z_xg (hs.get 0 rfl) (o:=1) rfl,?_⟩
 refine ⟨1,l.length,(l++xs).length,l.map byte,xs.map byte,(l++xs).map byte,rfl,fun β w' hs=>hs.get 2 rfl,z_ap xs,by rw [List.length_append],by rw [List.map_append],by rw [List.length_append];omega,by rw [List.length_append];show _*1<=_;omega,?_⟩
 intro A' c' _ _ _
 refine ⟨_,fun β w' hs=>hs.bkSet 0 (o:=1) (us:=[.slice A' (l++xs).length c']) rfl (by show 2<=2;decide) (z_w6 rfl),?_⟩
 intro β w' hs
 exact hs.fin [0,1] ⟨rfl,A',c',rfl⟩
structure BdS where
 v:Value
 A:Option Addr
 l:List UInt8
 c:Nat
theorem z_pn: ∀p:List UInt8,(triL p).length<=p.length
 | []=>Nat.le_refl _
 | [_]=>Nat.le_refl _
 | [_,_]=>by simp [triL]
 | a::b::c::r=>by
  have:=z_pn r
  simp only [triL,List.length_cons]
  omega
theorem z_uz (a b c:UInt8) (r:List UInt8):encS false (a::b::c::r)=encS false [a,b,c]++encS false r:=by
 have h4:(b64L false [a,b,c]).length=4:=by rw [z_mq];simp
 have e:b64L false (a::b::c::r)=b64L false [a,b,c]++b64L false r:=by
  unfold b64L
  rw [<-List.map_append]
  congr 1
 show b64L false (a::b::c::r)++eqs ((4 - (b64L false (a::b::c::r)).length%4)%4)=(b64L false [a,b,c]++eqs ((4 - (b64L false [a,b,c]).length%4)%4))++(b64L false r++eqs ((4 - (b64L false r).length%4)%4))
 rw [e,List.length_append,h4,Nat.add_mod_left]
 simp [eqs]
theorem z_tT: ∀(p:List UInt8),encS false p=(triL p).flatMap (encS false)
 | []=>rfl
 | [a]=>by simp [triL]
 | [a,b]=>by simp [triL]
 | a::b::c::r=>by rw [z_uz,z_tT r];rfl
theorem z_tL {x:List UInt8} (h1:1<=x.length) (h3:x.length<=3):encS false x=b64L false x++eqs (4 - (b64L false x).length)/\(b64L false x).length<=4/\2<=(b64L false x).length:=by
 have hl:=z_mq false x
 refine ⟨?_,by omega,by omega⟩
 show b64L false x++eqs ((4 - (b64L false x).length%4)%4)=_
 congr 2
 omega
structure BfS.Ok (i:BdS) (b:Nat) (p:List UInt8) (pre:List (List UInt8)):Prop where
 eq:pre=(triL p).take pre.length
 l:i.l=pre.flatMap (encS false)
 n:i.l.length<=4*pre.length
 v:i.v= .pointer none\/i.v=selfV b
set_option maxHeartbeats 1000000 in
theorem z_ub (w:World) (al:ByteArray) (hal:AlphE al false) (A:Option Addr) (p:List UInt8) (c:Nat) (h0:p≠[]) (hc:p.length<=c) (hL:p.length<=1000000) (hm:Mem w [bsF A p]):
  Con Tryz.prog z_pM #[.string al,.slice A p.length c,.bool true] w [] fun v Fs=>v= .string (mkS (encS false p))/\Fs=[]:=by
 have g:=z_qa w (Un [])
 have hml:=maxLen_eq
 refine z_eM (cx:=z_oe w (Un [])) g z_sI [.c (.v (.string al)),.c (.v (.slice A p.length c)),.c (.v (.bool true))] [bsF A p] hm ?_
 refine z_aa [] (fun β w' hs=>z_t0 w' A p.length c) ?_
 rintro v Fs ⟨bs,rfl,rfl⟩
 refine z_ec g 2 (fun _=>[.pointer none,.slice none 0 0]) rfl rfl (fun _=>rfl) (fun b=>?_)
 refine z_aG (α:=List UInt8) (ι:=BdS) (κ:=Unit) g rfl (cv:=[.pointer (some ⟨bs,0,none⟩)]) rfl (by kernel_rfl) 3 (Nat.le_refl 3)
  (fun pre i=>BfS.Ok i b p pre) (fun i=>[⟨1,z_jL,[.v (.bool true)]⟩,⟨0,z_ag,[.v (.string al)]⟩]) (fun i=>bldF b i.v i.A (i.l) i.c) (fun i=>⟨rfl,rfl,trivial⟩)
  (fun _ _ _=>False) (fun _=>[]) (fun _=>[]) (fun _=>trivial)
  [bkF bs z_al [.slice A p.length c]] [] [bsF A p] ⟨rfl,trivial⟩ (fun g h=>by obtain rfl:=List.mem_singleton.1 h;rfl) ⟨.pointer none,none,[],0⟩ ⟨rfl,rfl,Nat.le_refl _,.inl rfl⟩
  (fun β w hs=>⟨β,Agr.refl _ _,(hs.nilRow z_ab 1).perm [2,1,0,3]⟩) (insTri A p)
  (fun xs Fs'=>xs=triL p/\Fs'=[]) (fun _ Fs'=>Fs'=[])
  (fun l w f0 R J Jx hJ0 hJo hRo hY hm=>z_x8 l w bs A p c hc hL f0 R J Jx hJ0 hJo hRo hY hm) ?_ ?_ ?_
 ·rintro ⟨v,A1,l1,c1⟩ pre x args X W S' lb bs' pn pn' hbs hok ⟨A',rfl,rfl,hin,hx⟩
  obtain ⟨q1,q3⟩:=z_sP p x (List.mem_of_getElem? hx)
  have hv:=hok.v
  have hl1:=hok.l
  have hn1:=hok.n
  have hpl:pre.length<(triL p).length:=(List.getElem?_eq_some_iff.1 hx).1
  have hpc:=z_pn p
  obtain ⟨hes,hx4,hx2⟩:=z_tL q1 q3
  simp only at hv hl1 hn1
  refine ⟨_,rfl,?_⟩
  refine z_aa [] (fun β w' hs=>z_wj w' al false hal A' x x.length q1 q3 ((hs.sub 3 rfl rfl (bsF A' x) rfl (hin.rd w' (hs.get 3 rfl)) (fun k hk=>hin.d k hk)).mem.take (js:=[0]) rfl)) ?_
  rintro v2 Fs ⟨A2,c2,rfl,hc2,rfl⟩
  refine z_aa [2,3] (fun β w' hs=>z_uZ w' b v A1 l1 c1 A2 (b64L false x) c2 hv (by omega) (by omega) ((hs.rowRd 0 rfl).mem.take (js:=[2,3,0]) rfl)) ?_
  rintro v3 Fs ⟨rfl,A3,c3,rfl⟩
  obtain ⟨n,hn⟩: ∃n,4 - (b64L false x).length=n:=⟨_,rfl⟩
  rw [hn] at hes
  have hel:(eqs n).length=n:=by simp [eqs]
  refine ⟨(n:Int),by rw [wrap_i64 (by omega) (by omega)];omega,?_⟩
  refine z_ae (v:= .string (mkS (eqs n))) (fun β w' hs=>z_u4 w' n (by omega)) ?_
  refine z_aa [0,1] (fun β w' hs=>z_lA w' b (selfV b) A3 (l1++b64L false x) c3 (eqs n) (.inr rfl) (by rw [List.length_append];omega) (by omega) (hs.mem.take (js:=[0,1]) rfl)) ?_
  rintro v4 Fs ⟨rfl,A4,c4,rfl⟩
  refine ⟨⟨selfV b,A4,l1++b64L false x++eqs n,c4⟩,⟨?_,?_,?_,.inr rfl⟩,Ent.mk' trivial rfl (fun β w' hs=>hs.perm [0,1])⟩
  ·rw [List.length_append,List.length_singleton,List.take_add_one,hx,<-hok.eq]
   rfl
  ·show l1++b64L false x++eqs n=_
   rw [List.flatMap_append,<-hl1,List.append_assoc,<-hes]
   simp
  ·show (l1++b64L false x++eqs n).length<=_
   rw [List.length_append,List.length_append,List.length_append,List.length_singleton,hel]
   omega
 ·rintro xs ⟨v,A1,l1,c1⟩ Fs hok ⟨rfl,rfl⟩
  have hl1:l1=encS false p:=by rw [z_tT];exact hok.l
  subst hl1
  have hv:=hok.v
  simp only at hv
  have hne:encS false p≠[]:=fun e=>by
   have h:b64L false p=[]:=(List.append_eq_nil_iff.1 e).1
   have h2:=z_mq false p
   rw [h] at h2
   have:=List.length_pos_iff.2 h0
   simp only [List.length_nil] at h2
   omega
  refine z_aa [0,1] (fun β w' hs=>z_wu w' b v A1 (encS false p) c1 hne (hs.mem.take (js:=[0,1]) rfl)) ?_
  rintro v3 Fs ⟨rfl,rfl⟩
  intro β w' hs
  exact (hs.keepB (List.nil_sublist _)).fin [] ⟨rfl,rfl⟩
 ·rintro e pre j Fs h
  exact h.elim
theorem z_s2:AlphE (mkS [65,66,67,68,69,70,71,72,73,74,75,76,77,78,79,80,81,82,83,84,85,86,87,88,89,90,97,98,99,100,101,102,103,104,105,106,107,108,109,110,111,112,113,114,115,116,117,118,119,120,121,122,48,49,50,51,52,53,54,55,56,57,43,47]) false:=by
 have key: ∀n:_root_.Fin 64,(mkS [65,66,67,68,69,70,71,72,73,74,75,76,77,78,79,80,81,82,83,84,85,86,87,88,89,90,97,98,99,100,101,102,103,104,105,106,107,108,109,110,111,112,113,114,115,116,117,118,119,120,121,122,48,49,50,51,52,53,54,55,56,57,43,47]).data.toList[n.1]?=some (letA false n.1):=by decide+kernel
 exact fun n h=>key ⟨n,h⟩
theorem z_e3 (w:World) (A:Option Addr) (p:List UInt8) (c:Nat) (h0:p≠[]) (hc:p.length<=c) (hL:p.length<=1000000) (hm:Mem w [bsF A p]):
  Pu Tryz.prog z_lH #[.slice A p.length c] w (.string (mkS (encS false p))):=by
 have g:=z_m4 w (Un [])
 refine z_eM (cx:=z_k1 w (Un [])) g z_pr [.c (.v (.slice A p.length c))] [bsF A p] hm ?_
 refine z_aa [] (fun β w' hs=>z_ub w' _ z_s2 A p c h0 hc hL (hs.mem.take (js:=[0]) rfl)) ?_
 rintro v Fs ⟨rfl,rfl⟩
 intro β w' hs
 exact hs.fin [] ⟨rfl,rfl⟩
theorem Mem.part2 {w:World} {f g g':Fact} (h:Mem w [f,g]) (hf:f.own=true) (hp:g'.p w) (hD: ∀k,g'.D k->g.D k):Mem w [f,g']:=by
 have hs:=(List.pairwise_cons.1 h.sepf).1 g (by simp) (.inl hf)
 refine ⟨fun x hx=>?_,fun x hx k hk=>?_,List.pairwise_cons.2 ⟨fun x hx _ k hk hk'=>?_,List.pairwise_singleton _ _⟩⟩
 ·simp only [List.mem_cons,List.not_mem_nil,or_false] at hx
  rcases hx with rfl | rfl
  ·exact h.fact _ (by simp)
  ·exact hp
 ·simp only [List.mem_cons,List.not_mem_nil,or_false] at hx
  rcases hx with rfl | rfl
  ·exact h.flt _ (by simp) k hk
  ·exact h.flt g (by simp) k (hD k hk)
 ·obtain rfl:=List.mem_singleton.1 hx
  exact hs k hk (hD k hk')
theorem z_q7 {S:Sto}: ∀k,(mapF S.m S.ml).D k->(stoF S).D k:=fun k hk=>⟨mapF S.m S.ml,by simp,hk⟩
def Sto.names (S:Sto):List ByteArray:=sortK (S.ml.map (·.1))
theorem Sto.names_len (S:Sto):S.names.length=S.ts.length:=by rw [Sto.names,z_kY,List.length_map,Sto.ml,List.length_map]
def insN (L:List ByteArray) (pre:List ByteArray) (x:ByteArray) (args:Array Value) (X:Fact):Prop:=args= #[.string x]/\X=noF/\L[pre.length]?=some x
def tenEnd (S:Sto) (J Jx:List ByteArray->Fact->Prop) (Fs:List Fact):Prop:=
 ∃f Fs',Fs=f::Fs'/\((∃xs,J xs f/\xs=S.names/\Fs'=[stoF S])\/(∃pre,Jx pre f/\Fs'=[stoF S]))
theorem z_yJ (l:Nat) (w:World) (bx:Nat) (S:Sto) (f0 R:Fact) (J Jx:List ByteArray->Fact->Prop) (hok:KeysOk S.ml) (hL:S.ts.length<=1000) (hJ0:J [] f0) (hJo: ∀pre f,J pre f->f.own=true) (hRo:R.own=false) (hY:Yc Tryz.prog l J Jx R (insN S.names))
  (hm:Mem w (f0::R::[bkF bx z_ad [ptr S.b],stoF S])):
  Con Tryz.prog z_aW #[.func (.yield l) #[] #[],.pointer (some ⟨bx,0,none⟩)] w [f0,bkF bx z_ad [ptr S.b],stoF S] (fun _ Fs=>tenEnd S J Jx Fs):=by
 have g:=z_bT w (Un [f0,bkF bx z_ad [ptr S.b],stoF S]) [bx]
 have hs0:Sat (z_aE w (Un [f0,bkF bx z_ad [ptr S.b],stoF S]) [bx]) (Va.of fun _=>bx) 1 [] (f0::R::[bkF bx z_ad [ptr S.b],stoF S]) w:=by
  refine hm.sat rfl (fun f hf ho k hk=>?_) ⟨Nat.le_refl 1,fun i hi=>by obtain rfl:i=0:=Nat.lt_one_iff.1 hi;rfl⟩
  simp only [List.mem_cons,List.not_mem_nil,or_false] at hf
  rcases hf with rfl | rfl | rfl | rfl
  ·exact ⟨_,by simp,hk⟩
  ·rw [hRo] at ho;cases ho
  ·exact ⟨bkF bx z_ad [ptr S.b],by simp,hk⟩
  ·exact ⟨stoF S,by simp,hk⟩
 have hs1:=hs0.toBk 2 rfl 0 Nat.zero_lt_one rfl
 refine z_ac (cx:=z_aE w (Un [f0,bkF bx z_ad [ptr S.b],stoF S]) [bx]) g z_cI rfl rfl (β:=Va.of fun _=>bx) [.c (.v (.func (.yield l) #[] #[])),.c (.p 0 0)] 1 _ _ rfl rfl hs1 ?_
 have hml:S.ml.length=S.ts.length:=by rw [Sto.ml,List.length_map]
 refine ⟨.map (some S.m),fun β w' hs=>bkc (z_gX (hs.get 2 rfl)) (o:=0) rfl,?_⟩
 refine z_aa [] (fun β w' hs=>z_t4 w' (some S.m)) ?_
 rintro v Fs ⟨B,rfl,rfl⟩
 refine z_aa [] (fun β w' hs=>z_qg w' B S.m S.ml hok (by omega) ((hs.mem.take (js:=[0,3]) rfl).part2 rfl (z_mC (hs.get 3 rfl)) z_q7)) ?_
 have hnl:=S.names_len
 rintro v Fs ⟨A,c,rfl,hA0,rfl⟩
 have e0:sortK (S.ml.map (·.1))=S.names:=rfl
 rw [e0] at hA0 ⊢
 clear e0
 generalize hNm:S.names=N at *
 refine z_ai (ι:=List ByteArray×Fact) 1 (fun i=>[(0,.c (.v (.func (.yield l) #[] #[]))),(1,.c (.p 0 0)),(12,.c (.v (.slice A N.length c))),(13,.c (.v (.int .i64 (N.length:Int)))),(14,.c (.v (.int .i64 (i.1.length:Int))))]) (fun _=>[⟨0,z_ad,[.v (ptr S.b)]⟩]) (fun i=>[trowF A N c,i.2,R,stoF S])
  (fun i=>J i.1 i.2/\i.1=N.take i.1.length/\i.1.length<=N.length) (fun i=>N.length - i.1.length) ([],f0) ⟨hJ0,rfl,Nat.zero_le _⟩ (Ent.mk' ⟨rfl,rfl,rfl,rfl,rfl,trivial⟩ rfl (fun β w' hs=>hs.perm [0,2,3,4])) g ?_
 rintro ⟨pre,f⟩ ⟨hJ,hpre,hi⟩
 simp only at hJ hpre hi
 have hfo:=hJo _ _ hJ
 simp only
 refine BIf.dec (fun hlt=>?_) (fun hge=>?_)
 ·have hlt0:(pre.length:Int)<N.length:=hlt
  have hkl:pre.length<N.length:=by omega
  obtain ⟨x,hx,_⟩:=at_lt hkl
  obtain ⟨ad,hAd⟩:=hA0 (by omega)
  refine ⟨ad,pre.length,hAd,rfl,hkl,.string x,fun β w' hs=>?_,?_⟩
  ·have h:=z_an (hs.get 0 rfl)
   rw [hAd] at h
   exact Rd.cell1 h (by simp [hx])
  refine z_bC (X:=noF) (x:=x) hY 1 2 rfl hJ hfo rfl hRo (by decide) (fun β=>⟨rfl,rfl,hx⟩) rfl (fun β w _=>⟨trivial,fun k hk=>hk.elim,fun k _ h=>h.elim⟩) ?_ ?_
  ·intro f2 hfo2 hJ2
   have e:(pre++[x]).length=pre.length+1:=by rw [List.length_append];rfl
   refine ⟨((pre.length+1:Nat):Int),by rw [wrap_i64 (by omega) (by omega)];rfl,?_⟩
   refine ⟨(pre++[x],f2),⟨hJ2,?_,by show (pre++[x]).length<=_;omega⟩,by show N.length - (pre++[x]).length<N.length - pre.length;omega,?_⟩
   ·show pre++[x]=N.take (pre++[x]).length
    rw [e,List.take_add_one,hx,<-hpre]
    rfl
   ·simp only [e]
    exact Ent.mk' ⟨rfl,rfl,rfl,rfl,rfl,trivial⟩ rfl (fun β w' hs=>hs.perm [1,0,2,3])
  ·intro f2 hfo2 hJ2 β w' hs
   exact (hs.keepB (List.nil_sublist _)).fin [0,3] ⟨f2,_,rfl,.inr ⟨_,hJ2,rfl⟩⟩ rfl rfl rfl ⟨hfo2,rfl,trivial⟩
 ·have hge0: ¬(pre.length:Int)<N.length:=hge
  intro β w' hs
  exact (hs.keepB (List.nil_sublist _)).fin [1,3] ⟨f,_,rfl,.inl ⟨pre,hJ,by rw [hpre,hNm,List.take_of_length_le (by omega)],rfl⟩⟩ rfl rfl rfl ⟨hfo,rfl,trivial⟩
theorem z_qk (w:World) (S:Sto):Con Tryz.prog z_dS #[ptr S.b] w [] (fun v Fs=> ∃bx,v= .func (.func z_aW) #[] #[.pointer (some ⟨bx,0,none⟩)]/\Fs=[bkF bx z_ad [ptr S.b]]):=by
 refine z_ac (cx:=z_c6 w (Un [])) (z_gz w (Un [])) z_iW rfl rfl (β:=Va.z) [.c (.v (ptr S.b))] 0 [] [] rfl rfl (Sat.start rfl) ?_
 intro β w' hs
 exact hs.ofBk.fin [0] ⟨β 0,rfl,rfl⟩
theorem z_v2 {S:Sto} {A B:List Ten} {T:Ten} (hT:S.ts=A++T::B): ∀k,(mapF T.b T.m).D k->(stoF S).D k:=fun k hk=>
 ⟨sepF (S.ts.map tenF),by simp,tenF T,List.mem_map.2 ⟨T,by rw [hT];simp,rfl⟩,mapF T.b T.m,by simp,hk⟩
theorem z_vj (w:World) (S:Sto) (t:ByteArray):Con Tryz.prog z_fc #[ptr S.b,.string t] w [] (fun v Fs=> ∃bx bt,v= .func (.func z_bK) #[] #[.pointer (some ⟨bx,0,none⟩),.pointer (some ⟨bt,0,none⟩)]/\Fs=[bkF bx z_ad [ptr S.b],bkF bt z_ag [.string t]]):=by
 refine z_ac (cx:=z_ew w (Un [])) (z_h2 w (Un [])) z_kd rfl rfl (β:=Va.z) [.c (.v (ptr S.b)),.c (.v (.string t))] 0 [] [] rfl rfl (Sat.start rfl) ?_
 intro β w' hs
 exact hs.ofBk.ofBk.fin [0,1] ⟨β 0,β 1,rfl,rfl⟩
theorem z_sW {x:ByteArray} {l:List ByteArray} (h:x∈sortK l):x∈l:=by
 unfold sortK at h
 obtain ⟨s,hs,rfl⟩:=List.mem_map.1 h
 rw [(List.mergeSort_perm _ _).mem_iff] at hs
 obtain ⟨y,hy,rfl⟩:=List.mem_map.1 hs
 exact hy
theorem z_hK {x:ByteArray}: ∀ {l:ML},x∈l.map (·.1)->mlook l x≠none
 | [],h=>by cases h
 | (k,v)::r,h=>by
  by_cases hk:k=x
  ·simp [mlook,hk]
  ·simp only [mlook,if_neg hk]
   refine z_hK ?_
   simp only [List.map_cons,List.mem_cons] at h
   rcases h with h | h
   ·exact absurd h.symm hk
   ·exact h
end Go.Proofs.YtloeaiafphkjnaaGreatDoor.Sx
namespace Go.Proofs.YtloeaiafphkjnaaGreatDoor.Sx
open Go
attribute [local irreducible] Calls
section
variable {cx:Cx} {β:Va} {n:Nat} {H:List Bk} {F:List Fact} {w:World}
theorem Sat.nilPo (h:Sat cx β n H F w):Sat cx β n H (poF []::F) w:=h.noMem _ (fun f hf=>by cases hf) (fun k hk=>by obtain ⟨f,hf,_⟩:=hk;cases hf)
end
def csF (cs:List Crd):Fact:=poF (cs.map crRd)
theorem z_rH {cs:List Crd} {w:World} (h:(csF cs).p w) {c:Crd} (hc:c∈cs):SRd c.sec.x c.sec.a w/\Rd 1 c.rA c.roles.length (strs c.roles) w:=h (crRd c) (List.mem_map.2 ⟨c,hc,rfl⟩)
theorem z_q2 {y:Sec} {k:Nat} (h:(secF y.x y.a).D k): ∃f∈[y.ha1.f,y.server.f,y.stored.f,y.salt.f],f.D k:=by
 obtain ⟨f,hf,hk⟩:=h
 simp only [List.mem_cons,List.not_mem_nil,or_false] at hf
 rcases hf with rfl | rfl | rfl | rfl
 ·exact ⟨y.salt.f,by simp,hk⟩
 ·exact ⟨y.stored.f,by simp,hk⟩
 ·exact ⟨y.server.f,by simp,hk⟩
 ·exact ⟨y.ha1.f,by simp,hk⟩
theorem Sec.rdR {y:Sec} {w:World} (h: ∀f∈[y.ha1.f,y.server.f,y.stored.f,y.salt.f],f.p w):SRd y.x y.a w:=Sec.rd fun f hf=>h f (by
 simp only [Sec.fs,List.mem_cons,List.not_mem_nil,or_false] at hf ⊢
 rcases hf with rfl | rfl | rfl | rfl<;>simp)
theorem Sat.toCs {cx:Cx} {β:Va} {n:Nat} {H:List Bk} {F:List Fact} {w:World} (h:Sat cx β n H F w) (js:List Nat) {c:Crd} (e:takeIx F js=crdRows c) (hn:nodupB js=true:=by rfl):Sat cx β n H (csF [c]::dropIx js 0 F) w:=by
 have hs: ∀ {w:World},Mem w (takeIx F js)->(srowF c.rA c.roles c.rc).p w:=fun hm=>hm.fact _ (by rw [e];simp [crdRows])
 have hm0:=h.mem.take hn
 refine h.fuse js (csF [c]) (fun w hm=>?_) (fun k hk=>?_) hn (by rw [e];exact ⟨rfl,rfl,rfl,rfl,rfl,trivial⟩)
 ·intro f hf
  obtain rfl:=List.mem_singleton.1 hf
  refine ⟨Sec.rdR fun f hf=>hm.fact f ?_,z_an (hs hm)⟩
  rw [e]
  exact List.mem_cons_of_mem _ hf
 ·obtain ⟨f,hf,hk⟩:=hk
  obtain rfl:=List.mem_singleton.1 hf
  rw [e]
  rcases hk with hk | hk
  ·obtain ⟨f,hf,hk⟩:=z_q2 hk
   exact ⟨f,List.mem_cons_of_mem _ hf,hk⟩
  ·exact ⟨srowF c.rA c.roles c.rc,by simp [crdRows],strsRowD (hs hm0) k hk⟩
def Sec.bs (y:Sec):List Fact:=[browF z_ab y.ha1.A y.ha1.l y.ha1.c,browF z_ab y.server.A y.server.l y.server.c,browF z_ab y.stored.A y.stored.l y.stored.c,browF z_ab y.salt.A y.salt.l y.salt.c]
def crdBs (c:Crd):List Fact:=srowF c.rA c.roles c.rc::c.sec.bs
theorem bs_ro {y:Sec} {w:World} (h: ∀f∈y.bs,f.p w): ∀f∈[y.ha1.f,y.server.f,y.stored.f,y.salt.f],f.p w:=by
 intro f hf
 simp only [List.mem_cons,List.not_mem_nil,or_false] at hf
 rcases hf with rfl | rfl | rfl | rfl
 ·exact browRo (h (browF z_ab y.ha1.A y.ha1.l y.ha1.c) (by simp [Sec.bs]))
 ·exact browRo (h (browF z_ab y.server.A y.server.l y.server.c) (by simp [Sec.bs]))
 ·exact browRo (h (browF z_ab y.stored.A y.stored.l y.stored.c) (by simp [Sec.bs]))
 ·exact browRo (h (browF z_ab y.salt.A y.salt.l y.salt.c) (by simp [Sec.bs]))
theorem bs_D {y:Sec} {w:World} (h: ∀f∈y.bs,f.p w) {k:Nat} (hk:(secF y.x y.a).D k):Un y.bs k:=by
 obtain ⟨f,hf,hk⟩:=z_q2 hk
 simp only [List.mem_cons,List.not_mem_nil,or_false] at hf
 rcases hf with rfl | rfl | rfl | rfl
 ·exact ⟨browF z_ab y.ha1.A y.ha1.l y.ha1.c,by simp [Sec.bs],browRoD (h _ (by simp [Sec.bs])) k hk⟩
 ·exact ⟨browF z_ab y.server.A y.server.l y.server.c,by simp [Sec.bs],browRoD (h _ (by simp [Sec.bs])) k hk⟩
 ·exact ⟨browF z_ab y.stored.A y.stored.l y.stored.c,by simp [Sec.bs],browRoD (h _ (by simp [Sec.bs])) k hk⟩
 ·exact ⟨browF z_ab y.salt.A y.salt.l y.salt.c,by simp [Sec.bs],browRoD (h _ (by simp [Sec.bs])) k hk⟩
theorem Sat.bsCs {cx:Cx} {β:Va} {n:Nat} {H:List Bk} {F:List Fact} {w:World} (h:Sat cx β n H F w) (js:List Nat) {c:Crd} (e:takeIx F js=crdBs c) (hn:nodupB js=true:=by rfl):Sat cx β n H (csF [c]::dropIx js 0 F) w:=by
 have hm0:=h.mem.take hn
 rw [e] at hm0
 refine h.fuse js (csF [c]) (fun w hm=>?_) (fun k hk=>?_) hn (by rw [e];exact ⟨rfl,rfl,rfl,rfl,rfl,trivial⟩)
 ·rw [e] at hm
  intro f hf
  obtain rfl:=List.mem_singleton.1 hf
  exact ⟨Sec.rdR (bs_ro fun f hf=>hm.fact f (List.mem_cons_of_mem _ hf)),z_an (hm.fact (srowF c.rA c.roles c.rc) (by simp [crdBs]))⟩
 ·obtain ⟨f,hf,hk⟩:=hk
  obtain rfl:=List.mem_singleton.1 hf
  rw [e]
  rcases hk with hk | hk
  ·obtain ⟨f,hf,hk⟩:=bs_D (fun f hf=>hm0.fact f (List.mem_cons_of_mem _ hf)) hk
   exact ⟨f,List.mem_cons_of_mem _ hf,hk⟩
  ·exact ⟨srowF c.rA c.roles c.rc,by simp [crdBs],strsRowD (hm0.fact _ (by simp [crdBs])) k hk⟩
theorem Sat.bsCsU {cx:Cx} {β:Va} {n:Nat} {H:List Bk} {F:List Fact} {w:World} (h:Sat cx β n H F w) (js:List Nat) {c:Crd} (e:takeIx F js=crdBs c) (hn:nodupB js=true:=by rfl): ∀k,(csF [c]).D k->Un (crdBs c) k:=by
 have hm0:=h.mem.take hn
 rw [e] at hm0
 intro k hk
 obtain ⟨f,hf,hk⟩:=hk
 obtain rfl:=List.mem_singleton.1 hf
 rcases hk with hk | hk
 ·obtain ⟨f,hf,hk⟩:=bs_D (fun f hf=>hm0.fact f (List.mem_cons_of_mem _ hf)) hk
  exact ⟨f,List.mem_cons_of_mem _ hf,hk⟩
 ·exact ⟨srowF c.rA c.roles c.rc,by simp [crdBs],strsRowD (hm0.fact _ (by simp [crdBs])) k hk⟩
def rs0 (b:Nat):RS:=⟨b,none,0,[],none,0,[],[],0,0⟩
theorem Sat.rs0 {cx:Cx} {β:Va} {n:Nat} {H:List Bk} {F:List Fact} {w:World} {b:Nat} (h:Sat cx β n H (bkF b z_au (rs0 b).vs::F) w):Sat cx β n H (rsF (rs0 b)::F) w:=by
 have h1:=(h.nilPo.nilRow z_af 10).noMem (strsF none []) ⟨rfl,fun q=>by cases q⟩ (fun k hk=>by obtain ⟨q,_⟩:=hk;cases q)
 have h2:=h1.sep [3,0,1,2] rfl ⟨rfl,rfl,rfl,rfl,trivial⟩
 have e:dropIx [3,0,1,2] 4 F=F:=z_aD (by decide)
 refine h2.weaken (List.Sublist.refl _) ?_
 show List.Sublist (_::F) (_::dropIx [3,0,1,2] 4 F)
 rw [e]
 exact List.Sublist.refl _
theorem Sat.rsPool2 {cx:Cx} {β:Va} {n:Nat} {H:List Bk} {w:World} {R:RS} {c:Crd} {F:List Fact} (h:Sat cx β n H (csF [c]::rsF R::F) w):
  Sat cx β n H (rsF {R with ps:=secF c.sec.x c.sec.a::rdF 1 c.rA c.roles.length (strs c.roles)::R.ps}::F) w:=by
 have h1:=h.unsep 1 rfl
 have h2:=h1.fuse [3,4] (poF (secF c.sec.x c.sec.a::rdF 1 c.rA c.roles.length (strs c.roles)::R.ps)) (fun w hm f hf=>by
  have hc:=z_rH (hm.fact (csF [c]) (by show csF [c]∈[poF R.ps,csF [c]];simp)) (c:=c) (by simp)
  rcases List.mem_cons.1 hf with rfl | hf
  ·exact hc.1
  ·rcases List.mem_cons.1 hf with rfl | hf
   ·exact hc.2
   ·exact (show (poF R.ps).p w from hm.fact (poF R.ps) (by show poF R.ps∈[poF R.ps,csF [c]];simp)) f hf) (fun k hk=>by
  obtain ⟨f,hf,hk⟩:=hk
  rcases List.mem_cons.1 hf with rfl | hf
  ·exact ⟨csF [c],by show csF [c]∈[poF R.ps,csF [c]];simp,crRd c,by simp,.inl hk⟩
  ·rcases List.mem_cons.1 hf with rfl | hf
   ·exact ⟨csF [c],by show csF [c]∈[poF R.ps,csF [c]];simp,crRd c,by simp,.inr hk⟩
   ·exact ⟨poF R.ps,by show poF R.ps∈[poF R.ps,csF [c]];simp,f,hf,hk⟩) rfl ⟨rfl,rfl,trivial⟩
 have h3:=h2.sep [1,2,3,0] rfl ⟨rfl,rfl,rfl,rfl,trivial⟩
 have e0:dropIx [1] 2 F=F:=z_aD (by decide)
 have e1:dropIx [3,4] 5 F=F:=z_aD (by decide)
 have e2:dropIx [1,2,3,0] 4 F=F:=z_aD (by decide)
 refine h3.weaken (List.Sublist.refl _) ?_
 show List.Sublist _ (_::dropIx [1,2,3,0] 4 (dropIx [3,4] 5 (dropIx [1] 2 F)))
 rw [e0,e1,e2]
 exact List.Sublist.refl _
theorem z_sY {R:RS} {c:Crd}: ∀k,Un [rsF {R with ps:=secF c.sec.x c.sec.a::rdF 1 c.rA c.roles.length (strs c.roles)::R.ps}] k->Un [csF [c],rsF R] k:=by
 rintro k ⟨f,hf,hk⟩
 obtain rfl:=List.mem_singleton.1 hf
 obtain ⟨f2,hf2,hk2⟩:=hk
 simp only [RS.fs,List.mem_cons,List.not_mem_nil,or_false] at hf2
 have hin: ∀f∈R.fs,f.D k->Un [csF [c],rsF R] k:=fun f hf hk=>⟨rsF R,by simp,f,hf,hk⟩
 rcases hf2 with rfl | rfl | rfl | rfl
 ·exact hin (bkF R.b z_au R.vs) (by simp [RS.fs]) hk2
 ·exact hin (strsF R.tA R.ts) (by simp [RS.fs]) hk2
 ·exact hin (crowF R.lA R.cs R.lc) (by simp [RS.fs]) hk2
 ·obtain ⟨f3,hf3,hk3⟩:=hk2
  rcases List.mem_cons.1 hf3 with rfl | hf3
  ·exact ⟨csF [c],by simp,crRd c,by simp,.inl hk3⟩
  ·rcases List.mem_cons.1 hf3 with rfl | hf3
   ·exact ⟨csF [c],by simp,crRd c,by simp,.inr hk3⟩
   ·exact hin (poF R.ps) (by simp [RS.fs]) ⟨f3,hf3,hk3⟩
end Go.Proofs.YtloeaiafphkjnaaGreatDoor.Sx
namespace Go.Proofs.YtloeaiafphkjnaaGreatDoor.Sx
open Go
attribute [local irreducible] Calls
theorem z_wp {us:List ACrd}: ∀(N:List ByteArray),(∀x∈N,x∈us.map (·.user))->(N.filterMap (ausr us)).length=N.length/\ ∀(k:Nat) (x:ByteArray),N[k]?=some x->(N.filterMap (ausr us))[k]?=ausr us x
 | [],_=>⟨rfl,fun k x h=>by simp at h⟩
 | y::r,h=>by
  obtain ⟨h1,h2⟩:=z_wp r (fun x hx=>h x (List.mem_cons_of_mem _ hx))
  have hy:=h y List.mem_cons_self
  cases hq:ausr us y with
  | none=>exact absurd hy (ausr_none.1 hq)
  | some c=>
   rw [List.filterMap_cons,hq]
   refine ⟨by simp [h1],fun k x hk=>?_⟩
   cases k with
   | zero=>
    obtain rfl:y=x:=by simpa using hk
    simp [hq]
   | succ k=>
    have hk':r[k]?=some x:=by simpa using hk
    simpa using h2 k x hk'
theorem roP {f:Fact} {w:World} (h:(roX f).p w):f.p w:=h
def tenEndR (S:Sto) (J Jx:List ByteArray->Fact->Prop) (Fs:List Fact):Prop:=
 ∃f Fs',Fs=f::Fs'/\((∃xs,J xs f/\xs=S.names/\Fs'=[])\/(∃pre,Jx pre f/\Fs'=[]))
theorem z_w9 (l:Nat) (w:World) (bx:Nat) (S:Sto) (f0 R:Fact) (J Jx:List ByteArray->Fact->Prop) (hok:KeysOk S.ml) (hL:S.ts.length<=1000) (hJ0:J [] f0) (hJo: ∀pre f,J pre f->f.own=true) (hRo:R.own=false) (hY:Yc Tryz.prog l J Jx R (insN S.names))
  (hm:Mem w (f0::R::[bkF bx z_ad [ptr S.b],roX (stoF S)])):
  Con Tryz.prog z_aW #[.func (.yield l) #[] #[],.pointer (some ⟨bx,0,none⟩)] w [f0,bkF bx z_ad [ptr S.b]] (fun _ Fs=>tenEndR S J Jx Fs):=by
 have g:=z_bT w (Un [f0,bkF bx z_ad [ptr S.b]]) [bx]
 have hs0:Sat (z_aE w (Un [f0,bkF bx z_ad [ptr S.b]]) [bx]) (Va.of fun _=>bx) 1 [] (f0::R::[bkF bx z_ad [ptr S.b],roX (stoF S)]) w:=by
  refine hm.sat rfl (fun f hf ho k hk=>?_) ⟨Nat.le_refl 1,fun i hi=>by obtain rfl:i=0:=Nat.lt_one_iff.1 hi;rfl⟩
  simp only [List.mem_cons,List.not_mem_nil,or_false] at hf
  rcases hf with rfl | rfl | rfl | rfl
  ·exact ⟨_,by simp,hk⟩
  ·rw [hRo] at ho;cases ho
  ·exact ⟨bkF bx z_ad [ptr S.b],by simp,hk⟩
  ·cases ho
 have hs1:=hs0.toBk 2 rfl 0 Nat.zero_lt_one rfl
 refine z_ac (cx:=z_aE w (Un [f0,bkF bx z_ad [ptr S.b]]) [bx]) g z_cI rfl rfl (β:=Va.of fun _=>bx) [.c (.v (.func (.yield l) #[] #[])),.c (.p 0 0)] 1 _ _ rfl rfl hs1 ?_
 have hml:S.ml.length=S.ts.length:=by rw [Sto.ml,List.length_map]
 refine ⟨.map (some S.m),fun β w' hs=>bkc (z_gX (roP (hs.get 2 rfl))) (o:=0) rfl,?_⟩
 refine z_aa [] (fun β w' hs=>z_t4 w' (some S.m)) ?_
 rintro v Fs ⟨B,rfl,rfl⟩
 refine z_aa [] (fun β w' hs=>z_qg w' B S.m S.ml hok (by omega) ((hs.mem.take (js:=[0,3]) rfl).part2 rfl (z_mC (roP (hs.get 3 rfl))) z_q7)) ?_
 have hnl:=S.names_len
 rintro v Fs ⟨A,c,rfl,hA0,rfl⟩
 have e0:sortK (S.ml.map (·.1))=S.names:=rfl
 rw [e0] at hA0 ⊢
 clear e0
 generalize hNm:S.names=N at *
 refine z_ai (ι:=List ByteArray×Fact) 1 (fun i=>[(0,.c (.v (.func (.yield l) #[] #[]))),(1,.c (.p 0 0)),(12,.c (.v (.slice A N.length c))),(13,.c (.v (.int .i64 (N.length:Int)))),(14,.c (.v (.int .i64 (i.1.length:Int))))]) (fun _=>[⟨0,z_ad,[.v (ptr S.b)]⟩]) (fun i=>[trowF A N c,i.2,R,roX (stoF S)])
  (fun i=>J i.1 i.2/\i.1=N.take i.1.length/\i.1.length<=N.length) (fun i=>N.length - i.1.length) ([],f0) ⟨hJ0,rfl,Nat.zero_le _⟩ (Ent.mk' ⟨rfl,rfl,rfl,rfl,rfl,trivial⟩ rfl (fun β w' hs=>hs.perm [0,2,3,4])) g ?_
 rintro ⟨pre,f⟩ ⟨hJ,hpre,hi⟩
 simp only at hJ hpre hi
 have hfo:=hJo _ _ hJ
 simp only
 refine BIf.dec (fun hlt=>?_) (fun hge=>?_)
 ·have hlt0:(pre.length:Int)<N.length:=hlt
  have hkl:pre.length<N.length:=by omega
  obtain ⟨x,hx,_⟩:=at_lt hkl
  obtain ⟨ad,hAd⟩:=hA0 (by omega)
  refine ⟨ad,pre.length,hAd,rfl,hkl,.string x,fun β w' hs=>?_,?_⟩
  ·have h:=z_an (hs.get 0 rfl)
   rw [hAd] at h
   exact Rd.cell1 h (by simp [hx])
  refine z_bC (X:=noF) (x:=x) hY 1 2 rfl hJ hfo rfl hRo (by decide) (fun β=>⟨rfl,rfl,hx⟩) rfl (fun β w _=>⟨trivial,fun k hk=>hk.elim,fun k _ h=>h.elim⟩) ?_ ?_
  ·intro f2 hfo2 hJ2
   have e:(pre++[x]).length=pre.length+1:=by rw [List.length_append];rfl
   refine ⟨((pre.length+1:Nat):Int),by rw [wrap_i64 (by omega) (by omega)];rfl,?_⟩
   refine ⟨(pre++[x],f2),⟨hJ2,?_,by show (pre++[x]).length<=_;omega⟩,by show N.length - (pre++[x]).length<N.length - pre.length;omega,?_⟩
   ·show pre++[x]=N.take (pre++[x]).length
    rw [e,List.take_add_one,hx,<-hpre]
    rfl
   ·simp only [e]
    exact Ent.mk' ⟨rfl,rfl,rfl,rfl,rfl,trivial⟩ rfl (fun β w' hs=>hs.perm [1,0,2,3])
  ·intro f2 hfo2 hJ2 β w' hs
   exact (hs.keepB (List.nil_sublist _)).fin [0] ⟨f2,_,rfl,.inr ⟨_,hJ2,rfl⟩⟩ rfl rfl rfl ⟨hfo2,trivial⟩
 ·have hge0: ¬(pre.length:Int)<N.length:=hge
  intro β w' hs
  exact (hs.keepB (List.nil_sublist _)).fin [1] ⟨f,_,rfl,.inl ⟨pre,hJ,by rw [hpre,hNm,List.take_of_length_le (by omega)],rfl⟩⟩ rfl rfl rfl ⟨hfo,trivial⟩
structure RolOk (c:Crd):Prop where
 off:c.roles≠[]-> ∃b,c.rA=some ⟨b,0,none⟩
 cap:c.roles.length<=c.rc
theorem z_vr {A:Option Addr} {l:List ByteArray} {c:Nat} {w:World} (h:(srowF A l c).p w) (hl:l≠[]): ∃b,A=some ⟨b,0,none⟩:=by
 have h0:l.length≠0:=by simpa using hl
 have hrow:w.ownsRow 0 z_ag 1 (.slice A l.length c) l.length (strs l):=h
 rcases hrow.2 with ⟨_,hz⟩ | ⟨g,cap,cur,hv,_⟩
 ·exact absurd hz h0
 ·injection hv with h4 h5 h6
  exact ⟨g,h4⟩
theorem z_vW (w:World) (A:Option Addr) (l:List ByteArray) (c:Nat) (hr:Rd 1 A l.length (strs l) w) (hn:l.length<=1000000):
  Con Tryz.prog z_aN #[.slice A l.length c] w [] fun v Fs=> ∃A' c',v= .slice A' l.length c'/\l.length<=c'/\(l≠[]-> ∃b,A'=some ⟨b,0,none⟩)/\Fs=[srowF A' l c']:=by
 refine z_ac (cx:=z_aL w (Un [])) (z_a4 w (Un [])) z_bj rfl rfl (β:=Va.z) [.c (.v (.slice A l.length c))] 0 [] [rdF 1 A l.length (strs l)] rfl rfl ((Sat.start rfl).rd (fun _ h=>by cases h) hr) ?_
 refine BIf.mk (fun h=>?_) (fun h=>?_)
 ·intro β w' hs
  have hA:A=none:=by simpa using h
  subst hA
  have hl:l=[]:=by
   cases l with
   | nil=>rfl
   | cons x r=>obtain ⟨ad,q,_⟩:=hr.2 (by simp);cases q
  subst hl
  exact (hs.nilRow z_ag 1).fin [0] ⟨none,0,rfl,Nat.le_refl _,fun h=>absurd rfl h,rfl⟩
 intro b
 refine ⟨0,0,l.length,[],strs l,_,rfl,fun β w hs=>hs.get 1 rfl,z_cU l,Nat.zero_add _,rfl,by rw [maxLen_eq];omega,by show l.length*16<=_;omega,?_⟩
 intro A' c' h1 h2 h3 β w' hs
 exact hs.fin [0] ⟨A',c',rfl,h1,fun hl=>z_vr (hs.get 0 rfl) hl,rfl⟩
theorem z_vY (w:World) (c:Crd) (h1:SRd c.sec.x c.sec.a w) (h2:Rd 1 c.rA c.roles.length (strs c.roles) w) (hz:CSz c.a):
  Con Tryz.prog z_cr #[.agg c.vs.toArray] w [] fun v Fs=> ∃c':Crd,c'.a=c.a/\RolOk c'/\v= .agg c'.vs.toArray/\Fs=[srowF c'.rA c'.roles c'.rc,c'.sec.ha1.f,c'.sec.server.f,c'.sec.stored.f,c'.sec.salt.f]:=by
 have g:=z_de w (Un [])
 refine z_ac (cx:=z_aV w (Un [])) g z_fa rfl rfl (β:=Va.z) [.agg c.ss] 0 [] [oldF w] rfl rfl (z_ay rfl) ?_
 have hS: ∀ {n:Nat} {F:List Fact},Sub (z_aV w (Un [])) n [⟨1,z_ak,ti100.zero.map SL.v⟩,⟨0,z_ak,c.ss⟩] F [⟨0,z_ak,c.ss⟩] []:=fun {n F}=>Sub.of (List.sublist_cons_self _ _) (List.nil_sublist _)
 refine z_aj g z_dF (by kernel_rfl) [⟨0,z_ak,c.ss⟩] [] hS ?_
 refine z_aa [] (fun β w' hs=>z_pl w' c.sec.x c.sec.a (h1.old (hs.get 0 rfl)) hz.sec) ?_
 rintro v Fs ⟨y,hy,rfl,rfl⟩
 refine ⟨hS,?_⟩
 refine z_aa [] (fun β w' hs=>z_vW w' c.rA c.roles c.rc (Rd.old h2 (hs.get 4 rfl)) hz.roles) ?_
 rintro v Fs ⟨A',c',rfl,k1,k2,rfl⟩
 refine ⟨hS,?_⟩
 intro β w' hs
 refine (hs.keepB (List.nil_sublist _)).fin [0,1,2,3,4] ⟨⟨0,c.tenant,c.user,y,c.gen,A',c',c.roles,c.revoked⟩,?_,⟨k2,k1⟩,rfl,rfl⟩ rfl rfl rfl ⟨rfl,rfl,rfl,rfl,rfl,trivial⟩
 show ACrd.mk _ _ y.a _ _ _=ACrd.mk _ _ _ _ _ _
 rw [hy]
def insZ (L:List ACrd) (pre:List ACrd) (x:ACrd) (args:Array Value) (X:Fact):Prop:= ∃c:Crd,c.a=x/\RolOk c/\args= #[.agg c.vs.toArray]/\X=csF [c]/\L[pre.length]?=some x
def usrEndR (S:Sto) (L:List ACrd) (J Jx:List ACrd->Fact->Prop) (Fs:List Fact):Prop:=
 ∃f Fs',Fs=f::Fs'/\((∃xs,J xs f/\xs=L/\Fs'=[])\/(∃pre,Jx pre f/\Fs'=[]))
theorem z_xA (l:Nat) (w:World) (bx bt:Nat) (S:Sto) (t:ByteArray) (f0 R:Fact) (J Jx:List ACrd->Fact->Prop) {A B:List Ten} {T:Ten} (hT:S.ts=A++T::B) (htO:tenO S.ts t=some T) (hok:KeysOk T.m) (hL:T.us.length<=1000) (hz: ∀c∈T.us,CSz c.a)
  (hJ0:J [] f0) (hJo: ∀pre f,J pre f->f.own=true) (hRo:R.own=false) (hY:Yc Tryz.prog l J Jx R (insZ (usL (T.us.map Crd.a))))
  (hm:Mem w (f0::R::[bkF bx z_ad [ptr S.b],bkF bt z_ag [.string t],roX (stoF S)])):
  Con Tryz.prog z_bK #[.func (.yield l) #[] #[],.pointer (some ⟨bx,0,none⟩),.pointer (some ⟨bt,0,none⟩)] w [f0,bkF bx z_ad [ptr S.b],bkF bt z_ag [.string t]]
   (fun _ Fs=>usrEndR S (usL (T.us.map Crd.a)) J Jx Fs):=by
 have g:=z_gc w (Un [f0,bkF bx z_ad [ptr S.b],bkF bt z_ag [.string t]]) [bx,bt]
 have hs0:Sat (z_bx w (Un [f0,bkF bx z_ad [ptr S.b],bkF bt z_ag [.string t]]) [bx,bt]) (Va.of fun i=>[bx,bt].getD i 0) 2 [] (f0::R::[bkF bx z_ad [ptr S.b],bkF bt z_ag [.string t],roX (stoF S)]) w:=by
  refine hm.sat rfl (fun f hf ho k hk=>?_) ⟨Nat.le_refl 2,fun i _=>rfl⟩
  simp only [List.mem_cons,List.not_mem_nil,or_false] at hf
  rcases hf with rfl | rfl | rfl | rfl | rfl
  ·exact ⟨_,by simp,hk⟩
  ·rw [hRo] at ho;cases ho
  ·exact ⟨bkF bx z_ad [ptr S.b],by simp,hk⟩
  ·exact ⟨bkF bt z_ag [.string t],by simp,hk⟩
  ·cases ho
 have hs1:=(hs0.toBk 3 rfl 1 (by decide) rfl).toBk 2 rfl 0 (by decide) rfl
 refine z_ac (cx:=z_bx w (Un [f0,bkF bx z_ad [ptr S.b],bkF bt z_ag [.string t]]) [bx,bt]) g z_i5 rfl rfl (β:=Va.of fun i=>[bx,bt].getD i 0) [.c (.v (.func (.yield l) #[] #[])),.c (.p 0 0),.c (.p 1 0)] 2 _ _ rfl rfl hs1 ?_
 refine z_ae (v:= .map (some T.b)) (fun β w' hs=>by
  have h:=z_hV w' S t (roP (hs.get 2 rfl)) (fun k hk=>hs.flt _ (List.mem_of_getElem? (i:=2) rfl) k hk)
  rw [htO] at h
  exact h) ?_
 refine z_aa [] (fun β w' hs=>z_xK w' (some T.b)) ?_
 rintro v Fs ⟨B',rfl,rfl⟩
 refine z_aa [] (fun β w' hs=>z_th w' B' T.b T.m hok (by rw [Ten.m,List.length_map];omega) ((hs.mem.take (js:=[0,3]) rfl).part2 rfl (z_nP (z_jV (roP (hs.get 3 rfl)) hT)) (z_v2 hT))) ?_
 rintro v Fs ⟨A',c,rfl,hA0,rfl⟩
 obtain ⟨N,hN⟩: ∃N,sortK (T.m.map (·.1))=N:=⟨_,rfl⟩
 have hmu:T.m.map (·.1)=(T.us.map Crd.a).map (·.user):=by rw [Ten.m,List.map_map,List.map_map];rfl
 have hU:usL (T.us.map Crd.a)=N.filterMap (ausr (T.us.map Crd.a)):=by unfold usL;rw [<-hmu,hN]
 have hNl:N.length<=1000:=by rw [<-hN,z_kY,Ten.m,List.length_map,List.length_map];exact hL
 obtain ⟨hUl,hUa⟩:=z_wp (us:=T.us.map Crd.a) N (fun x hx=>by
  rw [<-hmu]
  rw [<-hN] at hx
  exact (z_cc _).mem_iff.1 hx)
 rw [<-hU] at hUl hUa
 rw [hN] at hA0 ⊢
 generalize usL (T.us.map Crd.a)=L at *
 refine z_ai (ι:=List ACrd×Fact) 2 (fun i=>[(0,.c (.v (.func (.yield l) #[] #[]))),(4,.c (.v (.map (some T.b)))),(13,.c (.v (.slice A' N.length c))),(14,.c (.v (.int .i64 (N.length:Int)))),(15,.c (.v (.int .i64 (i.1.length:Int))))]) (fun _=>[]) (fun i=>[trowF A' N c,i.2,R,roX (stoF S)])
  (fun i=>J i.1 i.2/\i.1=L.take i.1.length/\i.1.length<=N.length) (fun i=>N.length - i.1.length) ([],f0) ⟨hJ0,rfl,Nat.zero_le _⟩ (Ent.mk' ⟨rfl,rfl,rfl,rfl,rfl,trivial⟩ rfl (fun β w' hs=>(hs.keepB (List.nil_sublist _)).perm [0,2,3,4])) g ?_
 rintro ⟨pre,f⟩ ⟨hJ,hpre,hi⟩
 simp only at hJ hpre hi
 have hfo:=hJo _ _ hJ
 simp only
 refine BIf.dec (fun hlt=>?_) (fun hge=>?_)
 ·have hlt0:(pre.length:Int)<N.length:=hlt
  have hkl:pre.length<N.length:=by omega
  obtain ⟨x,hx,hxm⟩:=at_lt hkl
  obtain ⟨ad,hAd⟩:=hA0 (by omega)
  refine ⟨ad,pre.length,hAd,rfl,hkl,.string x,fun β w' hs=>?_,?_⟩
  ·have h:=z_an (hs.get 0 rfl)
   rw [hAd] at h
   exact Rd.cell1 h (by simp [hx])
  have hLx:=hUa _ _ hx
  have hxu:x∈T.m.map (·.1):=(z_cc _).mem_iff.1 (by rw [hN];exact hxm)
  rcases z_iz x T.us with ⟨U,d,V,eU,q0,q1,q2,q3,_⟩ | ⟨q1,_,_⟩
  rotate_left
  ·exact absurd q1 (z_hK hxu)
  rw [q3] at hLx
  have hcp: ∀ {w'},(stoF S).p w'->(crdF d).p w':=fun hp=>z_tc (z_jV hp hT) eU
  refine ⟨.pointer none,fun w=>z_h4 w,T.m,mlook T.m x,fun β w' hs=>z_nP (z_jV (roP (hs.get 3 rfl)) hT),rfl,?_⟩
  rw [show mlook T.m x=_ from q2]
  refine ⟨d.vs,rfl,fun β w' hs j v hv=>by rw [add2];exact bkc (z_wP (hcp (roP (hs.get 3 rfl)))) (by rw [Nat.zero_add];exact hv),?_⟩
  refine z_t1 [] (fun β w' hs=>z_vY w' d (z_xf (hcp (roP (hs.get 3 rfl)))) (z_o4 (hcp (roP (hs.get 3 rfl)))) (hz d (by rw [eU];simp))) ?_
  rintro v Fs ⟨d',hd',hdz,rfl,rfl⟩
  refine ⟨_,[csF [d'],trowF A' N c,f,R,roX (stoF S)],fun β w' hs=>hs.toCs [0,1,2,3,4] rfl,?_⟩
  refine z_te (X:=csF [d']) (x:=d.a) hY 2 3 0 rfl hJ hfo rfl rfl rfl (by decide) (by decide) (by decide) (fun β=>⟨d',hd',hdz,rfl,rfl,hLx⟩) ?_ ?_
  ·intro f2 hfo2 hJ2
   have e:(pre++[d.a]).length=pre.length+1:=by rw [List.length_append];rfl
   refine ⟨((pre.length+1:Nat):Int),by rw [wrap_i64 (by omega) (by omega)];rfl,?_⟩
   refine ⟨(pre++[d.a],f2),⟨hJ2,?_,by show (pre++[d.a]).length<=_;omega⟩,by show N.length - (pre++[d.a]).length<N.length - pre.length;omega,?_⟩
   ·show pre++[d.a]=L.take (pre++[d.a]).length
    rw [e,List.take_add_one,hLx,<-hpre]
    rfl
   ·simp only [e]
    exact Ent.mk' ⟨rfl,rfl,rfl,rfl,rfl,trivial⟩ rfl (fun β w' hs=>(hs.perm [1,0,2,3]).lower)
  ·intro f2 hfo2 hJ2 β w' hs
   exact (hs.keepB (List.nil_sublist _)).fin [0] ⟨f2,_,rfl,.inr ⟨_,hJ2,rfl⟩⟩ rfl rfl rfl ⟨hfo2,trivial⟩
 ·have hge0: ¬(pre.length:Int)<N.length:=hge
  intro β w' hs
  exact (hs.keepB (List.nil_sublist _)).fin [1] ⟨f,_,rfl,.inl ⟨pre,hJ,by rw [hpre,List.take_of_length_le (by omega)],rfl⟩⟩ rfl rfl rfl ⟨hfo,trivial⟩
def d0:List UInt8:=[108,97,115,116,32,48,10]
def last0:ByteArray:=mkS [108,97,115,116,32,48]
theorem z_wX:last0++(⟨#[10]⟩:ByteArray)=mkS d0:=by decide+kernel
theorem dec_0:decimS 0=mkS [48]:=by decide+kernel
def insL0 (pre:List ByteArray) (x:ByteArray) (args:Array Value) (X:Fact):Prop:=args= #[.string x]/\X=noF/\[last0][pre.length]?=some x
def l0End (S:Sto) (J Jx:List ByteArray->Fact->Prop) (Fs:List Fact):Prop:=
 ∃f Fs',Fs=f::Fs'/\((∃xs,J xs f/\xs=[last0]/\Fs'=[stoF S])\/(∃pre,Jx pre f/\Fs'=[stoF S]))
theorem z_uc (l:Nat) (w:World) (bx:Nat) (S:Sto) (hS:S.ts=[]) (hS0:S.last=0) (f0 R:Fact) (J Jx:List ByteArray->Fact->Prop) (hJ0:J [] f0) (hJo: ∀pre f,J pre f->f.own=true) (hRo:R.own=false) (hY:Yc Tryz.prog l J Jx R insL0)
  (hm:Mem w (f0::R::[bkF bx z_ad [ptr S.b],stoF S])):
  Con Tryz.prog z_cV #[.func (.yield l) #[] #[],.pointer (some ⟨bx,0,none⟩)] w [f0,bkF bx z_ad [ptr S.b],stoF S] (fun _ Fs=>l0End S J Jx Fs):=by
 have g:=z_fV w (Un [f0,bkF bx z_ad [ptr S.b],stoF S]) [bx]
 have hs0:Sat (z_bw w (Un [f0,bkF bx z_ad [ptr S.b],stoF S]) [bx]) (Va.of fun _=>bx) 1 [] (f0::R::[bkF bx z_ad [ptr S.b],stoF S]) w:=by
  refine hm.sat rfl (fun f hf ho k hk=>?_) ⟨Nat.le_refl 1,fun i hi=>by obtain rfl:i=0:=Nat.lt_one_iff.1 hi;rfl⟩
  simp only [List.mem_cons,List.not_mem_nil,or_false] at hf
  rcases hf with rfl | rfl | rfl | rfl
  ·exact ⟨_,by simp,hk⟩
  ·rw [hRo] at ho;cases ho
  ·exact ⟨bkF bx z_ad [ptr S.b],by simp,hk⟩
  ·exact ⟨stoF S,by simp,hk⟩
 have hs1:=hs0.toBk 2 rfl 0 Nat.zero_lt_one rfl
 refine z_ac (cx:=z_bw w (Un [f0,bkF bx z_ad [ptr S.b],stoF S]) [bx]) g z_jk rfl rfl (β:=Va.of fun _=>bx) [.c (.v (.func (.yield l) #[] #[])),.c (.p 0 0)] 1 _ _ rfl rfl hs1 ?_
 refine z_aj g z_gW (by kernel_rfl) [⟨1,135,[.v (.func (.yield l) #[] #[])]⟩,⟨0,z_ad,[.v (ptr S.b)]⟩] [] (Sub.of (List.Sublist.refl _) (List.nil_sublist _)) ?_
 refine z_ae (v:= .int .u64 ((0:Nat):Int)) (fun β w' hs=>by
  have h:=z_wo w' S (hs.get 2 rfl) (hs.getLt 2 rfl)
  rw [hS0] at h
  exact h) ?_
 refine ⟨Sub.of (List.Sublist.refl _) (List.nil_sublist _),?_⟩
 refine z_ae (v:= .string (mkS [48])) (fun β w' hs=>by
  have h:=z_qi w' 0 (by decide)
  rw [dec_0] at h
  exact h) ?_
 refine ⟨Sub.of (List.Sublist.refl _) (List.nil_sublist _),?_⟩
 refine ⟨by show 5+1<=maxLen;rw [maxLen_eq];decide,?_⟩
 refine z_bC (X:=noF) (x:=last0) hY 0 1 rfl hJ0 (hJo _ _ hJ0) rfl hRo (by decide) (fun β=>⟨by show #[Value.string (mkS [108,97,115,116,32]++mkS [48])]=_;rw [z_aq];rfl,rfl,rfl⟩) rfl (fun β w _=>⟨trivial,fun k hk=>hk.elim,fun k _ h=>h.elim⟩) ?_ ?_
 ·intro f2 hfo2 hJ2
  refine ⟨Sub.of (List.Sublist.refl _) (List.nil_sublist _),?_⟩
  refine z_aa [] (fun β w' hs=>z_qk w' S) ?_
  rintro v Fs ⟨by_,rfl,rfl⟩
  have hnm:S.names=[]:=List.length_eq_zero_iff.1 (by rw [S.names_len,hS];rfl)
  refine z_aG (α:=ByteArray) (ι:=Unit) (κ:=Unit) g rfl (cv:=[.pointer (some ⟨by_,0,none⟩)]) rfl (by kernel_rfl) 2 (Nat.le_refl 2) (fun _ _=>True) (fun _=>[⟨1,135,[.v (.func (.yield l) #[] #[])]⟩,⟨0,z_ad,[.v (ptr S.b)]⟩]) (fun _=>[f2]) (fun _=>⟨hfo2,trivial⟩) (fun _ _ _=>False) (fun _=>[]) (fun _=>[]) (fun _=>trivial) [bkF by_ z_ad [ptr S.b],stoF S] [] [R] ⟨rfl,rfl,trivial⟩ (fun g h=>by obtain rfl:=List.mem_singleton.1 h;exact hRo) () trivial (fun β w hs=>⟨β,Agr.refl _ _,hs.perm [0,3,1,2]⟩) (insN S.names) (fun xs Fs'=>xs=S.names/\Fs'=[stoF S]) (fun pre Fs'=>Fs'=[stoF S]) (fun l w f0 R J Jx h1 h2 h3 h4 h5=>(z_yJ l w by_ S f0 R J Jx (by unfold Sto.ml;rw [hS];exact ⟨List.Pairwise.nil,fun _ h=>by cases h⟩) (by rw [hS];exact Nat.zero_le _) h1 h2 h3 h4 h5).mono fun _ _ h=>h) ?_ ?_ ?_
  ·rintro i pre x args X W S0 l0 bs pn pn' _ _ ⟨_,_,h⟩
   rw [hnm] at h
   cases h
  ·rintro xs i Fs _ ⟨_,rfl⟩
   intro β w' hs
   exact (hs.keepB (List.nil_sublist _)).fin [1,0] ⟨f2,_,rfl,.inl ⟨_,hJ2,rfl,rfl⟩⟩ rfl rfl rfl ⟨hfo2,rfl,trivial⟩
  ·rintro e pre j Fs h
   exact h.elim
 ·intro f2 hfo2 hJ2
  refine ⟨Sub.of (List.Sublist.refl _) (List.nil_sublist _),?_⟩
  intro β w' hs
  exact (hs.keepB (List.nil_sublist _)).fin [0,2] ⟨f2,_,rfl,.inr ⟨_,hJ2,rfl⟩⟩ rfl rfl rfl ⟨hfo2,rfl,trivial⟩
theorem z_lX (w:World) (S:Sto):Con Tryz.prog z_lQ #[ptr S.b] w [] (fun v Fs=> ∃bx,v= .func (.func z_cV) #[] #[.pointer (some ⟨bx,0,none⟩)]/\Fs=[bkF bx z_ad [ptr S.b]]):=by
 refine z_ac (cx:=z_kp w (Un [])) (z_nD w (Un [])) z_pu rfl rfl (β:=Va.z) [.c (.v (ptr S.b))] 0 [] [] rfl rfl (Sat.start rfl) ?_
 intro β w' hs
 exact hs.ofBk.fin [0] ⟨β 0,rfl,rfl⟩
structure DSt where
 p:Value
 A:Option Addr
 l:List UInt8
 c:Nat
def lnB (L:List ByteArray):List UInt8:=L.flatMap fun x=>x.data.toList++[10]
theorem z_qJ (w:World) (S:Sto) (hS:S.ts=[]) (hS0:S.last=0) (hm:Mem w [stoF S,oddF 2,firstF 0]):Con Tryz.prog z_gd #[ptr S.b] w [stoF S] (fun v Fs=>v= .string (mkS (d0++sumL d0))/\Fs=[stoF S]):=by
 have g:=z_jn w (Un [stoF S])
 refine z_eM (cx:=z_hM w (Un [stoF S])) g z_nJ [.c (.v (ptr S.b))] [oddF 2,firstF 0] hm ?_
 refine z_aa [] (fun β w' hs=>z_lX w' S) ?_
 rintro v Fs ⟨bx,rfl,rfl⟩
 refine z_ec g 0 (fun _=>[.pointer none,.slice none 0 0]) rfl rfl (fun _=>rfl) (fun b=>?_)
 refine z_aG (α:=ByteArray) (ι:=DSt) (κ:=Unit) g rfl (cv:=[.pointer (some ⟨bx,0,none⟩)]) rfl (by kernel_rfl) 1 (Nat.le_refl 1) (fun pre i=>i.l=lnB pre/\(i.p= .pointer none\/i.p=selfV b)) (fun _=>[]) (fun i=>bldF b i.p i.A i.l i.c) (fun _=>⟨rfl,rfl,trivial⟩) (fun _ _ _=>False) (fun _=>[]) (fun _=>[]) (fun _=>trivial) [bkF bx z_ad [ptr S.b],stoF S] [] [oddF 2,firstF 0] ⟨rfl,rfl,trivial⟩ (fun g h=>by
   simp only [List.mem_cons,List.not_mem_nil,or_false] at h
   rcases h with rfl | rfl<;>rfl) ⟨.pointer none,none,[],0⟩ ⟨rfl,.inl rfl⟩ (fun β w hs=>⟨β,Agr.refl _ _,?_⟩) insL0 (fun xs Fs'=>xs=[last0]/\Fs'=[stoF S]) (fun pre Fs'=>Fs'=[stoF S]) (fun l w f0 R J Jx h1 h2 h3 h4 h5=>(z_uc l w bx S hS hS0 f0 R J Jx h1 h2 h3 h4 h5).mono fun _ _ h=>h) ?_ ?_ ?_
 ·exact (hs.nilRow z_ab 1).perm [2,3,1,0,4,5]
 ·rintro ⟨p,A,l,c⟩ pre x args X W S0 l0 bs pn pn' hbs ⟨hl,hp⟩ ⟨rfl,rfl,hx⟩
  simp only at hl hp
  have hxl:x=last0/\pre=[]:=by
   cases pre with
   | nil=>exact ⟨(Option.some.inj hx).symm,rfl⟩
   | cons a t=>cases hx
  obtain ⟨rfl,rfl⟩:=hxl
  obtain rfl:l=[]:=hl
  refine ⟨_,rfl,?_⟩
  refine ⟨by show 6+1<=maxLen;rw [maxLen_eq];decide,?_⟩
  refine z_aa [1,2] (fun β w' hs=>by
   have h:=z_lA w' b p A [] c d0 hp (by decide) (by decide) (hs.mem.take (js:=[1,2]) rfl)
   rw [<-z_wX] at h
   exact h) ?_
  rintro v Fs ⟨rfl,A2,c2,rfl⟩
  refine ⟨⟨selfV b,A2,d0,c2⟩,⟨by show d0=lnB [last0];decide,.inr rfl⟩,Ent.mk' trivial rfl (fun β w' hs=>?_)⟩
  exact hs.perm [0,1]
 ·rintro xs ⟨p,A,l,c⟩ Fs ⟨hl,hp⟩ ⟨rfl,rfl⟩
  simp only at hl hp
  obtain rfl:l=d0:=hl.trans (by decide)
  refine z_aa [1,2] (fun β w' hs=>z_uC w' b p A d0 c (by decide) (hs.mem.take (js:=[1,2]) rfl)) ?_
  rintro v Fs ⟨rfl,gb,rfl,h1,h2,rfl⟩
  refine z_aa [0,1] (fun β w' hs=>z_tq w' b gb p d0 c (by decide) h1 h2 (hs.mem.take (js:=[0,1]) rfl)) ?_
  rintro v Fs ⟨rfl,rfl⟩
  refine z_ae (v:= .string (mkS (sumL d0))) (fun β w' hs=>z_fM w' d0 (by decide) (hs.get 3 rfl) (hs.get 4 rfl)) ?_
  refine ⟨by show 7+(sumL d0).length<=maxLen;rw [z_cY,maxLen_eq];decide,?_⟩
  intro β w' hs
  refine hs.fin [2] ⟨?_,rfl⟩
  show Value.string (mkS d0++mkS (sumL d0))=_
  rw [z_aq]
 ·rintro e pre j Fs h
  exact h.elim
def usO (S:Sto) (t:ByteArray):List ACrd:=match tenO S.ts t with | some T=>usL (T.us.map Crd.a) | none=>[]
def tenB:ByteArray:=mkS [116,101,110,97,110,116,32]
def rlB:ByteArray:=mkS [108,97,115,116,32]
def tlA (S:Sto) (ln:ACrd->ByteArray) (t:ByteArray):List ByteArray:=(tenB++t)::(usO S t).map ln
def lnsA (S:Sto) (ln:ACrd->ByteArray):List ByteArray:=(rlB++decimS S.last)::S.names.flatMap (tlA S ln)
theorem z_pa {α:Type} {N:List α} {pre:List α} {x:α} (hp:pre=N.take pre.length) (hx:N[pre.length]?=some x):N=pre++x::N.drop (pre.length+1):=by
 conv=>lhs;rw [<-List.take_append_drop pre.length N,<-hp]
 obtain ⟨h,e⟩:=List.getElem?_eq_some_iff.1 hx
 rw [List.drop_eq_getElem_cons h,e]
theorem z_wE {α:Type} {L a b:List α} {x:α} (h:L=a++x::b):L[a.length]?=some x:=by rw [h];simp
theorem z_oK {α:Type} {N:List α} {pre:List α} {x:α} (hp:pre=N.take pre.length) (hx:N[pre.length]?=some x):pre++[x]=N.take (pre++[x]).length:=by
 rw [List.length_append]
 show _=N.take (pre.length+1)
 rw [List.take_add_one,hx,<-hp]
 rfl
structure OwF where
 f:Fact
 o:f.own=true
structure LnOk (c:ACrd):Prop where
 u0:c.user.data.toList≠[]
 u:c.user.size<=32
 s:rightA c.sec=true
 g:c.gen<=greatN
 n:c.roles.length<=8
 r: ∀r∈c.roles,r.size<=32
def TenOk (S:Sto) (t:ByteArray):Prop:= ∃A B T,S.ts=A++T::B/\tenO S.ts t=some T/\KeysOk T.m/\T.us.length<=1000/\(∀c∈T.us,CSz c.a)/\t.size<=100000/\(∀c∈T.us,LnOk c.a)
def insRm (L:List ByteArray) (pre:List ByteArray) (x:ByteArray) (args:Array Value) (X:Fact):Prop:=args= #[.string x]/\X=noF/\L[pre.length]?=some x
def lnsEnd (L:List ByteArray) (J Jx:List ByteArray->Fact->Prop) (Fs:List Fact):Prop:=
 ∃f Fs',Fs=f::Fs'/\((∃xs,J xs f/\xs=L/\Fs'=[])\/(∃pre,Jx pre f/\Fs'=[]))
set_option maxHeartbeats 2000000 in
theorem z_ye (l:Nat) (w:World) (bx:Nat) (S:Sto) (ln:ACrd->ByteArray) (Q:Fact) (hQo:Q.own=false) (hok:KeysOk S.ml) (hL:S.ts.length<=1000) (hT: ∀t∈S.names,TenOk S t) (hds:(decimS S.last).size<=100)
  (hdec: ∀w,Q.p w->Pu Tryz.prog z_d8 #[.int .u64 (S.last:Int)] w (.string (decimS S.last)))
  (hln: ∀w (c:Crd),RolOk c->LnOk c.a->Mem w [csF [c],Q]->Pu Tryz.prog z_gl #[.agg c.vs.toArray] w (.string (ln c.a)))
  (f0 R:Fact) (J Jx:List ByteArray->Fact->Prop) (hJ0:J [] f0) (hJo: ∀pre f,J pre f->f.own=true) (hRo:R.own=false) (hY:Yc Tryz.prog l J Jx R (insRm (lnsA S ln)))
  (hm:Mem w (f0::R::[bkF bx z_ad [ptr S.b],roX (stoF S),Q])):
  Con Tryz.prog z_cV #[.func (.yield l) #[] #[],.pointer (some ⟨bx,0,none⟩)] w [f0,bkF bx z_ad [ptr S.b]] (fun _ Fs=>lnsEnd (lnsA S ln) J Jx Fs):=by
 have g:=z_fV w (Un [f0,bkF bx z_ad [ptr S.b]]) [bx]
 have hs0:Sat (z_bw w (Un [f0,bkF bx z_ad [ptr S.b]]) [bx]) (Va.of fun _=>bx) 1 [] (f0::R::[bkF bx z_ad [ptr S.b],roX (stoF S),Q]) w:=by
  refine hm.sat rfl (fun f hf ho k hk=>?_) ⟨Nat.le_refl 1,fun i hi=>by obtain rfl:i=0:=Nat.lt_one_iff.1 hi;rfl⟩
  simp only [List.mem_cons,List.not_mem_nil,or_false] at hf
  rcases hf with rfl | rfl | rfl | rfl | rfl
  ·exact ⟨_,by simp,hk⟩
  ·rw [hRo] at ho;cases ho
  ·exact ⟨bkF bx z_ad [ptr S.b],by simp,hk⟩
  ·cases ho
  ·rw [hQo] at ho;cases ho
 have hs1:=hs0.toBk 2 rfl 0 Nat.zero_lt_one rfl
 refine z_ac (cx:=z_bw w (Un [f0,bkF bx z_ad [ptr S.b]]) [bx]) g z_jk rfl rfl (β:=Va.of fun _=>bx) [.c (.v (.func (.yield l) #[] #[])),.c (.p 0 0)] 1 _ _ rfl rfl hs1 ?_
 refine z_aj g z_gW (by kernel_rfl) [⟨1,135,[.v (.func (.yield l) #[] #[])]⟩,⟨0,z_ad,[.v (ptr S.b)]⟩] [] (Sub.of (List.Sublist.refl _) (List.nil_sublist _)) ?_
 refine z_ae (v:= .int .u64 (S.last:Int)) (fun β w' hs=>z_wo w' S (roP (hs.get 2 rfl)) (fun k hk=>hs.flt (roX (stoF S)) (List.mem_of_getElem? (i:=2) rfl) k hk)) ?_
 refine ⟨Sub.of (List.Sublist.refl _) (List.nil_sublist _),?_⟩
 refine z_ae (v:= .string (decimS S.last)) (fun β w' hs=>hdec w' (hs.get 3 rfl)) ?_
 refine ⟨Sub.of (List.Sublist.refl _) (List.nil_sublist _),?_⟩
 refine ⟨by show 5+_<=maxLen;rw [maxLen_eq];omega,?_⟩
 refine z_bC (X:=noF) (x:=rlB++decimS S.last) hY 0 1 rfl hJ0 (hJo _ _ hJ0) rfl hRo (by decide) (fun β=>⟨rfl,rfl,rfl⟩) rfl (fun β w _=>⟨trivial,fun k hk=>hk.elim,fun k _ h=>h.elim⟩) ?_ ?_
 rotate_left
 ·intro f2 hfo2 hJ2
  refine ⟨Sub.of (List.Sublist.refl _) (List.nil_sublist _),?_⟩
  intro β w' hs
  exact (hs.keepB (List.nil_sublist _)).fin [0] ⟨f2,_,rfl,.inr ⟨_,hJ2,rfl⟩⟩ rfl rfl rfl ⟨hfo2,trivial⟩
 intro f2 hfo2 hJ2
 refine ⟨Sub.of (List.Sublist.refl _) (List.nil_sublist _),?_⟩
 refine z_aa [] (fun β w' hs=>z_qk w' S) ?_
 rintro v Fs ⟨by_,rfl,rfl⟩
 refine z_aG (α:=ByteArray) (ι:=List ByteArray×OwF) (κ:=List ByteArray×OwF) g rfl (cv:=[.pointer (some ⟨by_,0,none⟩)]) rfl (by kernel_rfl) 2 (Nat.le_refl 2)
  (fun pre i=>J i.1 i.2.f/\pre=S.names.take pre.length/\i.1=(rlB++decimS S.last)::pre.flatMap (tlA S ln)) (fun _=>[⟨1,135,[.v (.func (.yield l) #[] #[])]⟩,⟨0,z_ad,[.v (ptr S.b)]⟩]) (fun i=>[i.2.f]) (fun i=>⟨i.2.o,trivial⟩)
  (fun e _ j=>e= .ret/\Jx j.1 j.2.f) (fun _=>[]) (fun j=>[j.2.f]) (fun j=>⟨j.2.o,trivial⟩) [bkF by_ z_ad [ptr S.b]] [roX (stoF S)] [R,roX (stoF S),Q] ⟨rfl,trivial⟩ (fun g h=>by
   simp only [List.mem_cons,List.not_mem_nil,or_false] at h
   rcases h with rfl | rfl | rfl
   ·exact hRo
   ·rfl
   ·exact hQo) ([rlB++decimS S.last],⟨f2,hfo2⟩) ⟨hJ2,rfl,rfl⟩ (fun β w hs=>⟨β,Agr.refl _ _,?_⟩) (insN S.names) (fun xs Fs'=>xs=S.names/\Fs'=[]) (fun pre Fs'=>Fs'=[]) (fun l w f0 R J Jx h1 h2 h3 h4 h5=>(z_w9 l w by_ S f0 R J Jx hok hL h1 h2 h3 h4 h5).mono fun _ _ h=>h) ?_ ?_ ?_
 ·exact (hs.sub 3 rfl rfl (roX (stoF S)) rfl (hs.get 3 rfl) (fun _ h=>h)).perm [1,0,2,3,4,5]
 ·rintro ⟨ls,f,hfo⟩ pre x args X W S0 l0 bs pn pn' hbs ⟨hJ,hpre,hls⟩ ⟨rfl,rfl,hx⟩
  simp only at hJ hpre hls
  obtain ⟨A,B,T,hA,hTo,hTk,hTl,hTz,hts,hTn⟩:=hT x (List.mem_of_getElem? hx)
  have hN:=z_pa hpre hx
  have hLx:lnsA S ln=ls++(tenB++x)::((usO S x).map ln++(S.names.drop (pre.length+1)).flatMap (tlA S ln)):=by
   unfold lnsA
   rw [hls]
   conv=>lhs;rw [hN]
   simp [tlA]
  refine ⟨_,rfl,?_⟩
  refine ⟨by show 7+x.size<=maxLen;rw [maxLen_eq];omega,?_⟩
  refine z_bC (X:=noF) (x:=tenB++x) hY 1 2 rfl hJ hfo rfl hRo (by decide) (fun β=>⟨rfl,rfl,z_wE hLx⟩) rfl (fun β w _=>⟨trivial,fun k hk=>hk.elim,fun k _ h=>h.elim⟩) ?_ ?_
  rotate_left
  ·intro f3 hfo3 hJ3
   exact ⟨(ls++[tenB++x],⟨f3,hfo3⟩),⟨rfl,hJ3⟩,Ent.mk' trivial rfl (fun β w' hs=>(hs.keepB (List.nil_sublist _)).perm [0])⟩
  intro f3 hfo3 hJ3
  refine z_aa [] (fun β w' hs=>z_vj w' S x) ?_
  rintro v Fs ⟨b1,b2,rfl,rfl⟩
  have hU:usO S x=usL (T.us.map Crd.a):=by unfold usO;rw [hTo]
  rw [hU] at hLx
  refine z_aG (α:=ACrd) (ι:=List ByteArray×OwF) (κ:=List ByteArray×OwF) (z_bD g) rfl (cv:=[.pointer (some ⟨b1,0,none⟩),.pointer (some ⟨b2,0,none⟩)]) rfl (by kernel_rfl) 2 (Nat.le_refl 2)
   (fun pre2 i=>J i.1 i.2.f/\pre2=(usL (T.us.map Crd.a)).take pre2.length/\i.1=ls++(tenB++x)::pre2.map ln) (fun _=>[⟨1,135,[.v (.func (.yield l) #[] #[])]⟩,⟨0,z_ad,[.v (ptr S.b)]⟩]) (fun i=>[i.2.f]) (fun i=>⟨i.2.o,trivial⟩)
   (fun e _ j=>e= .ret/\Jx j.1 j.2.f) (fun _=>[]) (fun j=>[j.2.f]) (fun j=>⟨j.2.o,trivial⟩) [bkF b1 z_ad [ptr S.b],bkF b2 z_ag [.string x]] [roX (stoF S)] [R,roX (stoF S),Q] ⟨rfl,rfl,trivial⟩ (fun g h=>by
    simp only [List.mem_cons,List.not_mem_nil,or_false] at h
    rcases h with rfl | rfl | rfl
    ·exact hRo
    ·rfl
    ·exact hQo) (ls++[tenB++x],⟨f3,hfo3⟩) ⟨hJ3,rfl,rfl⟩ (fun β w hs=>⟨β,Agr.refl _ _,?_⟩) (insZ (usL (T.us.map Crd.a))) (fun xs Fs'=>xs=usL (T.us.map Crd.a)/\Fs'=[]) (fun pre Fs'=>Fs'=[]) (fun l w f0 R J Jx h1 h2 h3 h4 h5=>(z_xA l w b1 b2 S x f0 R J Jx hA hTo hTk hTl hTz h1 h2 h3 h4 h5).mono fun _ _ h=>h) ?_ ?_ ?_
  ·exact (hs.sub 5 rfl rfl (roX (stoF S)) rfl (hs.get 5 rfl) (fun _ h=>h)).perm [1,2,0,3,5,6,7]
  ·rintro ⟨ls2,f,hfo2⟩ pre2 y args X2 W2 S2 l2 bs2 pm pm' hbs2 ⟨hJ,hpre2,hls2⟩ ⟨c,rfl,hcr,rfl,rfl,hy⟩
   simp only at hJ hpre2 hls2
   have hU2:=z_pa hpre2 hy
   have hcn:LnOk c.a:=by
    have hm:=List.mem_of_getElem? hy
    unfold usL at hm
    obtain ⟨u,_,hu⟩:=List.mem_filterMap.1 hm
    obtain ⟨_,U,V,hUV,_⟩:=z_hC hu
    have hcm:c.a∈T.us.map Crd.a:=by rw [hUV];simp
    obtain ⟨d,hd,hdc⟩:=List.mem_map.1 hcm
    rw [<-hdc]
    exact hTn d hd
   have hLy:lnsA S ln=ls2++ln c.a::(((usL (T.us.map Crd.a)).drop (pre2.length+1)).map ln++(S.names.drop (pre.length+1)).flatMap (tlA S ln)):=by
    rw [hLx,hls2]
    conv=>lhs;rw [hU2]
    simp
   refine ⟨_,rfl,?_⟩
   refine z_aj (z_bD (z_bD g)) z_l8 (by kernel_rfl) [⟨2,100,c.vs.map SL.v⟩,⟨1,135,[.v (.func (.yield l) #[] #[])]⟩] [] (Sub.of (((List.nil_sublist _).cons_cons _).cons_cons _) (List.nil_sublist _)) ?_
   refine z_ae (v:= .string (ln c.a)) (fun β w' hs=>hln w' c hcr hcn (hs.mem.take (js:=[0,4]) rfl)) ?_
   refine ⟨Sub.of (((List.nil_sublist _).cons_cons _).cons_cons _) (List.nil_sublist _),?_⟩
   refine z_bC (X:=noF) (x:=ln c.a) hY 1 2 rfl hJ hfo2 rfl hRo (by decide) (fun β=>⟨rfl,rfl,z_wE hLy⟩) rfl (fun β w _=>⟨trivial,fun k hk=>hk.elim,fun k _ h=>h.elim⟩) ?_ ?_
   rotate_left
   ·intro f4 hfo4 hJ4
    refine ⟨Sub.of (((List.nil_sublist _).cons_cons _).cons_cons _) (List.nil_sublist _),?_⟩
    exact ⟨(ls2++[ln c.a],⟨f4,hfo4⟩),⟨rfl,hJ4⟩,Ent.mk' trivial rfl (fun β w' hs=>((hs.keepB (List.nil_sublist _)).perm [0]).lower)⟩
   intro f4 hfo4 hJ4
   refine ⟨Sub.of (((List.nil_sublist _).cons_cons _).cons_cons _) (List.nil_sublist _),?_⟩
   refine ⟨(ls2++[ln c.a],⟨f4,hfo4⟩),⟨hJ4,z_oK hpre2 hy,by show ls2++[ln c.a]=_;rw [hls2];simp⟩,Ent.mk' trivial rfl (fun β w' hs=>?_)⟩
   exact ((hs.keepB (List.sublist_cons_self _ _)).perm [0]).lower
  ·rintro xs ⟨ls2,f,hfo2⟩ Fs ⟨hJ,hpre2,hls2⟩ ⟨rfl,rfl⟩
   simp only at hJ hpre2 hls2
   refine ⟨(ls2,⟨f,hfo2⟩),⟨hJ,z_oK hpre hx,?_⟩,Ent.mk' trivial rfl (fun β w' hs=>hs.perm [0])⟩
   show ls2=_
   rw [hls2,hls,List.flatMap_append,List.cons_append]
   simp [tlA,hU]
  ·rintro e pre2 ⟨ls2,f,hfo2⟩ Fs ⟨rfl,hJ⟩ rfl
   exact ⟨(ls2,⟨f,hfo2⟩),⟨rfl,hJ⟩,Ent.mk' trivial rfl (fun β w' hs=>hs.perm [0])⟩
 ·rintro xs ⟨ls,f,hfo⟩ Fs ⟨hJ,hpre,hls⟩ ⟨rfl,rfl⟩
  intro β w' hs
  exact (hs.keepB (List.nil_sublist _)).fin [0] ⟨f,[],rfl,.inl ⟨ls,hJ,hls,rfl⟩⟩ rfl rfl rfl ⟨hfo,trivial⟩
 ·rintro e pre ⟨ls,f,hfo⟩ Fs ⟨rfl,hJ⟩ rfl
  intro β w' hs
  exact (hs.keepB (List.nil_sublist _)).fin [0] ⟨f,[],rfl,.inr ⟨ls,hJ,rfl⟩⟩ rfl rfl rfl ⟨hfo,trivial⟩
end Go.Proofs.YtloeaiafphkjnaaGreatDoor.Sx
namespace Go.Proofs.YtloeaiafphkjnaaGreatDoor.Sx
open Go Go.RowKit Go.Sort
attribute [local irreducible] Calls
set_option maxRecDepth 100000 in
set_option maxHeartbeats 1000000 in
theorem fmtG (u : Nat) (h100 : 100 ≤ u) (hu64 : u < 18446744073709551616) (w : World) (htab : Lib.TabIs Tryz.prog w "internal/strconv.uint64pow10" .u64 Lib.pow10Tab) :
  Calls Tryz.prog 172 #[.int .u64 u,.int .i64 10] w fun e w'=>e= .returned (.string ⟨(Lib.decDigits u).toArray⟩)/\ ∃k os,w'=grow (w.drewN k) os:=by
 have hu1:1<=u:=by omega
 have hnd20:Lib.nDigits u<=20:=by have:=Lib.numDigits_eq u hu1 hu64;split at this<;>omega
 have hb3:Lib.nDigits u<=24:=by omega
 have hal:Tryz.prog.arrayLen 244=24:=by simp [Program.arrayLen,Tryz.underlying244]
 have hsl1: ∀W,(Instr.sliceAt 244 (.pointer (some ⟨w.heap.size,0,none⟩)) none (some (.int .i64 (Lib.nDigits u:Int))) none).run Tryz.prog W= .ok (.slice (some ⟨w.heap.size,0,none⟩) (Lib.nDigits u) 24) W:=fun W=>by
  rw [run_sliceAt_array_h W 244 ⟨w.heap.size,0,none⟩ (by simp [Program.arrayLen,Program.elem,Tryz.underlying244]) .i64 (Lib.nDigits u:Int) (by omega) (by rw [hal];omega)]
  go_simp
 have hH0:Holds (fun (b:UInt8)=>Value.int .u8 (b.toNat:Int)) (w.alloc (.cells Lib.zeros24 244)) w.heap.size 0 (Array.replicate (Lib.nDigits u) (0:UInt8)):=fun j hj=>by
  have hj':j<Lib.nDigits u:=by simpa using hj
  refine ⟨?_,World.frozen?_alloc_new _ _ _ _⟩
  rw [World.cell?_alloc_new,Lib.zeros24_at _ (by omega),getElem!_pos _ j hj]
  simp
 have hfmt:=Tryz.internal_strconv_formatBase10 w.heap.size 0 24 u (Array.replicate (Lib.nDigits u) 0) (w.alloc (.cells Lib.zeros24 244)) hH0 (by rw [Array.size_replicate];exact Lib.lt_pow_nDigits u) hu64 (by rw [Array.size_replicate];omega)
 rw [Array.size_replicate] at hfmt
 have HH0:=Lib.hid hH0
 clear hH0 hal
 have e1: ∀args w,(callFunc 209 args).run Tryz.prog w= .ok (.enter 209 args) w:=enters_of Tryz.func209 (by kernel_rfl) rfl
 have e2: ∀args w,(callFunc 210 args).run Tryz.prog w= .ok (.enter 210 args) w:=enters_of Tryz.func210 (by kernel_rfl) rfl
 go_enter Tryz.func172,Tryz.ntmps172
 go_wp2_with (first
  | (go_at_fn 209;refine (Tryz.internal_strconv_numDigits u hu1 hu64 _ (Lib.tabIs_alloc htab _)).mono ?_;rintro e w' ⟨rfl,rfl⟩))
 go_at_fn 210
 refine hfmt.mono ?_
 rintro e w' ⟨rfl,k,v',dk,rfl,hF⟩
 have hcv:(convert 43 9 (.slice (some ⟨w.heap.size,0,none⟩) (Lib.nDigits u) 24)).run Tryz.prog ((putRow (fun (b:UInt8)=>Value.int .u8 (b.toNat:Int)) (w.alloc (.cells Lib.zeros24 244)) w.heap.size 0 dk).drewN k)= .ok (.string ⟨(Lib.decDigits u).toArray⟩) ((putRow (fun (b:UInt8)=>Value.int .u8 (b.toNat:Int)) (w.alloc (.cells Lib.zeros24 244)) w.heap.size 0 dk).drewN k):=by
  have h:=run_convert_bytes_back (P:=Tryz.prog) ((putRow (fun (b:UInt8)=>Value.int .u8 (b.toNat:Int)) (w.alloc (.cells Lib.zeros24 244)) w.heap.size 0 dk).drewN k) 43 9 5 ⟨w.heap.size,0,none⟩ 24 (Lib.decDigits u) Tryz.underlying43 Tryz.underlying5 Tryz.underlying9 (fun j hj=>by
   rw [Lib.row_is_numeral hF j hj,Lib.add_plain,World.cell?_drewN]
   exact cell?_putRow (fun (b:UInt8)=>Value.int .u8 (b.toNat:Int)) _ w.heap.size 0 _ dk HH0.out (by rw [hF.size,Array.size_replicate]) j (by rw [hF.size];rw [Lib.decDigits_length] at hj;exact hj))
  rw [Lib.decDigits_length] at h
  exact h
 go_wp2
 go_ret
 have eo: ∃os,(putRow (fun (b:UInt8)=>Value.int .u8 (b.toNat:Int)) (w.alloc (.cells Lib.zeros24 244)) w.heap.size 0 dk).drewN k=grow (w.drewN k) os:=by
  rw [alloc_eq_grow]
  obtain ⟨os',_,e⟩:=putRow_grow_new (fun (b:UInt8)=>Value.int .u8 (b.toNat:Int)) w #[_] w.heap.size 0 dk (Nat.le_refl _)
  exact ⟨os',by rw [e];rfl⟩
 obtain ⟨os,eo⟩:=eo
 exact ⟨rfl,k,os,eo⟩
def powF:Fact where
 own:=false
 D:=fun k=>k=7
 p := fun w => Lib.TabIs Tryz.prog w "internal/strconv.uint64pow10" .u64 Lib.pow10Tab
 st:=fun w w' hs h=>by
  have hg : Tryz.prog.globalNamed "internal/strconv.uint64pow10" = some 7 := by kernel_rfl
  unfold Lib.TabIs World.var? at h ⊢
  rw [hg] at h ⊢
  simp only [Option.bind_some] at h ⊢
  rw [hs _ rfl]
  exact h
theorem z_vZ (w:World) (k:Nat) (os:Array Obj):Chg None_ w (grow (w.drewN k) os):=by
 refine ⟨rfl,rfl,rfl,?_,fun i hi _=>?_⟩
 ·simp [grow]
 ·simp [grow,Array.getElem?_append,hi]
theorem z_xS (w:World) (u:Nat) (hu:u<18446744073709551616) (hp:powF.p w):Pu Tryz.prog z_aJ #[.int .u64 (u:Int),.int .i64 10] w (.string (decimS u)):=by
 by_cases h:u<100
 ·exact z_wM w u h
 ·refine pu_of (Calls.mono (fmtG u (by omega) hu w hp) ?_)
  rintro e w' ⟨rfl,k,os,rfl⟩
  exact ⟨_,rfl,rfl,z_vZ w k os⟩
theorem z_xs (w:World) (u:Nat) (hu:u<18446744073709551616) (hm:Mem w [powF]):Pu Tryz.prog z_bN #[.int .u64 (u:Int),.int .i64 10] w (.string (decimS u)):=by
 refine z_eM (cx:=z_bu w (Un [])) (z_cp w (Un [])) z_dX [.c (.v (.int .u64 (u:Int))),.c (.v (.int .i64 10))] [powF] hm ?_
 refine z_ae (fun β w' hs=>z_xS w' u hu (hs.get 0 rfl)) ?_
 intro β w' hs
 exact hs.fin [] ⟨rfl,rfl⟩
theorem z_d9 (w:World) (u:Nat) (hu:u<18446744073709551616) (hm:Mem w [powF]):Pu Tryz.prog z_d8 #[.int .u64 (u:Int)] w (.string (decimS u)):=by
 refine z_eM (cx:=z_jw w (Un [])) (z_j6 w (Un [])) z_oh [.c (.v (.int .u64 (u:Int)))] [powF] hm ?_
 refine z_ae (v:= .string (decimS u)) (fun β w' hs=>z_xs w' u hu hs.mem) ?_
 intro β w' hs
 exact hs.fin [] ⟨rfl,rfl⟩
theorem z_gM {w:World} (h:powF.p w):Mem w [powF]:=by
 refine ⟨fun f hf=>by obtain rfl:=List.mem_singleton.1 hf;exact h,fun f hf k hk=>?_,List.pairwise_singleton _ _⟩
 obtain rfl:=List.mem_singleton.1 hf
 obtain rfl:k=7:=hk
 have hg : Tryz.prog.globalNamed "internal/strconv.uint64pow10" = some 7 := by kernel_rfl
 have h' : w.var? Tryz.prog "internal/strconv.uint64pow10" = some _ := h
 unfold World.var? at h'
 rw [hg] at h'
 simp only [Option.bind_some] at h'
 split at h'
 ·rename_i q;exact (Array.getElem?_eq_some_iff.1 q).1
 ·cases h'
end Go.Proofs.YtloeaiafphkjnaaGreatDoor.Sx
namespace Go.Proofs.YtloeaiafphkjnaaGreatDoor.Sx
open Go
attribute [local irreducible] Calls
theorem jn_le {d:UInt8} {k:Nat}: ∀ {L:List (List UInt8)},(∀x∈L,x.length<=k)->(jn d L).length<=L.length*(k+1)
 | [],_=>Nat.zero_le _
 | [a],h=>by
  have:=h a (by simp)
  show a.length<=1*(k+1)
  omega
 | a::b::r,h=>by
  have ih:=jn_le (d:=d) (L:=b::r) (fun x hx=>h x (List.mem_cons_of_mem _ hx))
  have:=h a (by simp)
  rw [z_om]
  simp only [List.length_append,List.length_cons,Nat.add_mul] at ih ⊢
  omega
theorem z_oT (d:UInt8) (l:List ByteArray):joinB l ⟨#[d]⟩=mkS (jn d (l.map fun r=>r.data.toList)):=by
 unfold joinB
 rw [<-z_qd]
 rfl
theorem z_q6 {l:List ByteArray} (h8:l.length<=8) (hs: ∀r∈l,r.size<=32):(rolB l).length<=264:=by
 unfold rolB
 split
 ·decide
 ·have:=jn_le (d:=44) (k:=32) (L:=l.map fun r=>r.data.toList) (fun x hx=>by
   obtain ⟨r,hr,rfl⟩:=List.mem_map.1 hx
   exact hs r hr)
  rw [List.length_map] at this
  omega
theorem z_tE (w:World) (A:Option Addr) (l:List ByteArray) (c:Nat) (hA:l≠[]-> ∃b,A=some ⟨b,0,none⟩) (hc:l.length<=c) (h8:l.length<=8) (hs_: ∀r∈l,r.size<=32) (hm:Mem w [rdF 1 A l.length (strs l)]):
  Pu Tryz.prog z_lP #[.slice A l.length c] w (.string (mkS (rolB l))):=by
 have g:=z_nI w (Un [])
 refine z_eM (cx:=z_kt w (Un [])) g z_pz [.c (.v (.slice A l.length c))] [rdF 1 A l.length (strs l)] hm ?_
 refine BIf.dec (fun h0=>?_) (fun h0=>?_)
 ·have h00:(l.length:Int)=0:=h0
  have hl:l=[]:=List.length_eq_zero_iff.1 (by omega)
  intro β w' hs
  refine hs.fin [] ⟨?_,rfl⟩
  rw [hl]
  rfl
 ·have h00: ¬(l.length:Int)=0:=h0
  have hl:l≠[]:=fun e=>h00 (by rw [e];rfl)
  obtain ⟨b,rfl⟩:=hA hl
  have hlen:=z_q6 h8 hs_
  have hr:rolB l=jn 44 (l.map fun r=>r.data.toList):=by unfold rolB;rw [if_neg hl]
  refine z_ae (v:= .string (mkS (rolB l))) (fun β w' hs=>by
   have h:=z_ux w' b c l ⟨#[44]⟩ (hs.get 0 rfl) (hs.flt _ (List.mem_of_getElem? (i:=0) rfl) b ⟨by omega,_,rfl,rfl⟩) (by omega) hc (by
    rw [show (⟨#[44]⟩:ByteArray).data.toList=[44] from rfl,z_qd,<-hr]
    omega)
   rw [z_oT,<-hr] at h
   exact h) ?_
  intro β w' hs
  exact hs.fin [] ⟨rfl,rfl⟩
theorem Sat.frOld {cx:Cx} {β:Va} {n:Nat} {H:List Bk} {F:List Fact} {W w:World} (h:Sat cx β n H F w) (j:Nat) (hj:nth F j=some (oldF W)) (f:Fact) (hfo:f.own=false) (hp:f.p W) (hlt: ∀k,f.D k->k<W.heap.size):Sat cx β n H (f::F) w:=
 h.sub j hj rfl f hfo (f.st W w (fun k hk=>(h.get j hj:(oldF W).p w) k (hlt k hk)) hp) hlt
theorem z_ws (w:World) (k:Nat) (hk:k<100):Pu Tryz.prog z_nS #[.int .i64 (k:Int)] w (.string (decimS k)):=by
 refine pu_of (Calls.mono (Tryz.strconv_Itoa_small k hk w) ?_)
 rintro e w' ⟨rfl,rfl⟩
 exact ⟨_,rfl,rfl,Chg.refl _ _⟩
theorem ne_of {α:Type} {l:List α} (h:1<=l.length):l≠[]:=fun e=>by rw [e] at h;exact absurd h (Nat.not_succ_le_zero 0)
theorem z_nE {a:ASec} (h:rightA a=true):1<=a.salt.length/\a.salt.length<=32/\1<=a.iter/\a.iter<=64/\a.stored.length=32/\a.server.length=32/\a.ha1.length=32:=by
 unfold rightA saltedA at h
 simp only [Bool.and_eq_true,decide_eq_true_eq] at h
 obtain ⟨⟨h1,h2,h3,h4⟩,h5,h6,h7⟩:=h
 exact ⟨h1,h2,h3,h4,h5,h6,h7⟩
theorem mapS (l:List (List UInt8)):(l.map mkS).map (fun r:ByteArray=>r.data.toList)=l:=by
 rw [List.map_map]
 have:((fun r:ByteArray=>r.data.toList)∘mkS)=id:=by funext l;exact mkSo l
 rw [this,List.map_id]
theorem z_l5 (p:List UInt8):(encS false p).length<=(8*p.length+5)/6+3:=by
 show (b64L false p++eqs _).length<=_
 have h:=z_mq false p
 rw [List.length_append]
 simp only [eqs,List.length_replicate]
 omega
theorem z_nm {n:Nat} (h:n<18446744073709551616):(Lib.decDigits n).length<=20:=z_ll h
theorem z_oH {c:ACrd} (ok:LnOk c):(jn 32 (wdsU c)).length<=2650:=by
 obtain ⟨h0,h32,hi1,hi64,hst,hsv,hha⟩:=z_nE ok.s
 have hg:=ok.g
 unfold greatN at hg
 have key: ∀x∈wdsU c,x.length<=264:=?_
 ·have:=jn_le (d:=32) (k:=264) (L:=wdsU c) key
  rw [show (wdsU c).length=10 from rfl] at this
  omega
 intro x hx
 have hu:=ok.u
 have hx1:(hexB c.user.data.toList).length=2*c.user.size:=z_fg _
 have e1:=z_l5 c.sec.salt
 have e2:=z_l5 c.sec.stored
 have e3:=z_l5 c.sec.server
 have e4:=z_l5 c.sec.ha1
 have d1:=z_nm (n:=c.gen) (by omega)
 have d2:=z_nm (n:=c.sec.iter.toNat) (by omega)
 have r1:=z_q6 ok.n ok.r
 simp only [wdsU,List.mem_cons,List.not_mem_nil,or_false] at hx
 rcases hx with rfl | rfl | rfl | rfl | rfl | rfl | rfl | rfl | rfl | rfl
 ·decide
 ·omega
 ·omega
 ·unfold stW;split<;>decide
 ·omega
 ·omega
 ·omega
 ·omega
 ·omega
 ·exact r1
set_option maxHeartbeats 1000000 in
theorem z_x5 (w:World) (c:Crd) (hz:RolOk c) (ok:LnOk c.a) (hm:Mem w [csF [c],powF]):Pu Tryz.prog z_gl #[.agg c.vs.toArray] w (.string (mkS (lnU c.a))):=by
 have g:=z_nT w (Un [])
 have hc:(csF [c]).p w:=hm.fact _ (by simp)
 have hp:powF.p w:=hm.fact _ (by simp)
 have hpl: ∀k,powF.D k->k<w.heap.size:=fun k hk=>hm.flt powF (by simp) k hk
 obtain ⟨hr,hro⟩:=z_rH hc (c:=c) (by simp)
 obtain ⟨h0,h32,hi1,hi64,hst,hsv,hha⟩:=z_nE ok.s
 have hgl:c.gen<18446744073709551616:=by have:=ok.g;unfold greatN at this;show c.a.gen<_;omega
 refine z_ac (cx:=z_lS w (Un [])) g z_qw rfl rfl (β:=Va.z) [.agg c.ss] 0 [] [oldF w] rfl rfl (z_ay rfl) ?_
 obtain ⟨cb,tn,us,sc,gn,rA,rc,ro,rv⟩:=c
 replace h0:1<=sc.salt.l.length:=h0
 replace h32:sc.salt.l.length<=32:=h32
 replace hst:sc.stored.l.length=32:=hst
 replace hsv:sc.server.l.length=32:=hsv
 replace hha:sc.ha1.l.length=32:=hha
 replace hi1:1<=sc.iter:=hi1
 replace hi64:sc.iter<=64:=hi64
 replace hro:Rd 1 rA ro.length (strs ro) w:=hro
 replace hgl:gn<18446744073709551616:=hgl
 obtain ⟨k,hk⟩: ∃k:Nat,sc.iter=(k:Int):=⟨sc.iter.toNat,by omega⟩
 have hwl: ∀rv,((wdsU (Crd.a ⟨cb,tn,us,sc,gn,rA,rc,ro,rv⟩)).map mkS).map Value.string=[.string (mkS userW),.string (mkS (hexB us.data.toList)),.string (decimS gn),.string (mkS (stW rv)),.string (decimS k),.string (mkS (encS false sc.salt.l)),.string (mkS (encS false sc.stored.l)),.string (mkS (encS false sc.server.l)),.string (mkS (encS false sc.ha1.l)),.string (mkS (rolB ro))]:=fun rv=>by
  have e:(Crd.a ⟨cb,tn,us,sc,gn,rA,rc,ro,rv⟩).sec.iter.toNat=k:=by show sc.iter.toNat=k;omega
  unfold wdsU
  rw [e]
  rfl
 cases rv with
 | false=>
  refine z_aj g z_ks (by kernel_rfl) [⟨1,z_be,sc.x.ss⟩,⟨0,z_ak,Crd.ss ⟨cb,tn,us,sc,gn,rA,rc,ro,false⟩⟩] [oldF w] (subPerm [0]) ?_
  intro b1 b2 q1 q2
  refine ⟨subPerm [1],?_⟩
  refine z_ae (v:= .string (mkS (hexB us.data.toList))) (fun β w' hs=>hex_c w' (some ⟨b1,0,none⟩) us.data.toList b2 (hs.get 0 rfl) ok.u0 (by have:=ok.u;show us.size<=_;exact Nat.le_trans this (by decide))) ?_
  refine ⟨subPerm [1],?_⟩
  refine z_ae (v:= .string (decimS gn)) (fun β w' hs=>z_d9 w' gn hgl (z_gM (z_bt hp hpl (hs.get 1 rfl)))) ?_
  refine ⟨subPerm [1],?_⟩
  refine z_ae (v:= .string (decimS k)) (fun β w' hs=>by
   have h:=z_ws w' k (by omega)
   rw [<-hk] at h
   exact h) ?_
  refine ⟨subPerm [1],?_⟩
  refine z_ae (v:= .string (mkS (encS false sc.salt.l))) (fun β w' hs=>z_e3 w' sc.salt.A sc.salt.l sc.salt.c (ne_of h0) sc.salt.hc (by omega) ((hs.frOld 1 rfl (bsF sc.salt.A sc.salt.l) rfl hr.r1 (rd_lt hr.r1)).mem.take (js:=[0]) rfl)) ?_
  refine ⟨subPerm [1],?_⟩
  refine z_ae (v:= .string (mkS (encS false sc.stored.l))) (fun β w' hs=>z_e3 w' sc.stored.A sc.stored.l sc.stored.c (ne_of (by omega)) sc.stored.hc (by omega) ((hs.frOld 1 rfl (bsF sc.stored.A sc.stored.l) rfl hr.r2 (rd_lt hr.r2)).mem.take (js:=[0]) rfl)) ?_
  refine ⟨subPerm [1],?_⟩
  refine z_ae (v:= .string (mkS (encS false sc.server.l))) (fun β w' hs=>z_e3 w' sc.server.A sc.server.l sc.server.c (ne_of (by omega)) sc.server.hc (by omega) ((hs.frOld 1 rfl (bsF sc.server.A sc.server.l) rfl hr.r3 (rd_lt hr.r3)).mem.take (js:=[0]) rfl)) ?_
  refine ⟨subPerm [1],?_⟩
  refine z_ae (v:= .string (mkS (encS false sc.ha1.l))) (fun β w' hs=>z_e3 w' sc.ha1.A sc.ha1.l sc.ha1.c (ne_of (by omega)) sc.ha1.hc (by omega) ((hs.frOld 1 rfl (bsF sc.ha1.A sc.ha1.l) rfl hr.r4 (rd_lt hr.r4)).mem.take (js:=[0]) rfl)) ?_
  refine ⟨subPerm [1],?_⟩
  refine z_ae (v:= .string (mkS (rolB ro))) (fun β w' hs=>z_tE w' rA ro rc hz.off hz.cap ok.n ok.r ((hs.frOld 1 rfl (rdF 1 rA ro.length (strs ro)) rfl hro (rd_lt hro)).mem.take (js:=[0]) rfl)) ?_
  refine ⟨subPerm [1],?_⟩
  intro b3
  refine ⟨subPerm [2],?_⟩
  refine z_ae (v:= .string (mkS (jn 32 (wdsU (Crd.a ⟨cb,tn,us,sc,gn,rA,rc,ro,false⟩))))) (fun β w' hs=>by
   have h:=z_ux w' b3 10 ((wdsU (Crd.a ⟨cb,tn,us,sc,gn,rA,rc,ro,false⟩)).map mkS) ⟨#[32]⟩ (by rw [hwl _];exact z_an (hs.get 0 rfl)) (hs.getLt 0 rfl b3 rfl) (by show 10<=1000;decide) (Nat.le_refl 10) (by
    rw [show (⟨#[32]⟩:ByteArray).data.toList=[32] from rfl,z_qd,mapS]
    have:=z_oH (c:=Crd.a ⟨cb,tn,us,sc,gn,rA,rc,ro,false⟩) ok
    omega)
   rw [z_oT,mapS] at h
   exact h) ?_
  refine ⟨subPerm [2],?_⟩
  intro β w' hs
  exact (hs.keepB (List.nil_sublist _)).fin [] ⟨rfl,rfl⟩
 | true=>
  refine z_aj g z_ks (by kernel_rfl) [⟨1,z_be,sc.x.ss⟩,⟨0,z_ak,Crd.ss ⟨cb,tn,us,sc,gn,rA,rc,ro,true⟩⟩] [oldF w] (subPerm [0]) ?_
  intro b1 b2 q1 q2
  refine ⟨subPerm [1],?_⟩
  refine z_ae (v:= .string (mkS (hexB us.data.toList))) (fun β w' hs=>hex_c w' (some ⟨b1,0,none⟩) us.data.toList b2 (hs.get 0 rfl) ok.u0 (by have:=ok.u;show us.size<=_;exact Nat.le_trans this (by decide))) ?_
  refine ⟨subPerm [1],?_⟩
  refine z_ae (v:= .string (decimS gn)) (fun β w' hs=>z_d9 w' gn hgl (z_gM (z_bt hp hpl (hs.get 1 rfl)))) ?_
  refine ⟨subPerm [1],?_⟩
  refine z_ae (v:= .string (decimS k)) (fun β w' hs=>by
   have h:=z_ws w' k (by omega)
   rw [<-hk] at h
   exact h) ?_
  refine ⟨subPerm [1],?_⟩
  refine z_ae (v:= .string (mkS (encS false sc.salt.l))) (fun β w' hs=>z_e3 w' sc.salt.A sc.salt.l sc.salt.c (ne_of h0) sc.salt.hc (by omega) ((hs.frOld 1 rfl (bsF sc.salt.A sc.salt.l) rfl hr.r1 (rd_lt hr.r1)).mem.take (js:=[0]) rfl)) ?_
  refine ⟨subPerm [1],?_⟩
  refine z_ae (v:= .string (mkS (encS false sc.stored.l))) (fun β w' hs=>z_e3 w' sc.stored.A sc.stored.l sc.stored.c (ne_of (by omega)) sc.stored.hc (by omega) ((hs.frOld 1 rfl (bsF sc.stored.A sc.stored.l) rfl hr.r2 (rd_lt hr.r2)).mem.take (js:=[0]) rfl)) ?_
  refine ⟨subPerm [1],?_⟩
  refine z_ae (v:= .string (mkS (encS false sc.server.l))) (fun β w' hs=>z_e3 w' sc.server.A sc.server.l sc.server.c (ne_of (by omega)) sc.server.hc (by omega) ((hs.frOld 1 rfl (bsF sc.server.A sc.server.l) rfl hr.r3 (rd_lt hr.r3)).mem.take (js:=[0]) rfl)) ?_
  refine ⟨subPerm [1],?_⟩
  refine z_ae (v:= .string (mkS (encS false sc.ha1.l))) (fun β w' hs=>z_e3 w' sc.ha1.A sc.ha1.l sc.ha1.c (ne_of (by omega)) sc.ha1.hc (by omega) ((hs.frOld 1 rfl (bsF sc.ha1.A sc.ha1.l) rfl hr.r4 (rd_lt hr.r4)).mem.take (js:=[0]) rfl)) ?_
  refine ⟨subPerm [1],?_⟩
  refine z_ae (v:= .string (mkS (rolB ro))) (fun β w' hs=>z_tE w' rA ro rc hz.off hz.cap ok.n ok.r ((hs.frOld 1 rfl (rdF 1 rA ro.length (strs ro)) rfl hro (rd_lt hro)).mem.take (js:=[0]) rfl)) ?_
  refine ⟨subPerm [1],?_⟩
  intro b3
  refine ⟨subPerm [2],?_⟩
  refine z_ae (v:= .string (mkS (jn 32 (wdsU (Crd.a ⟨cb,tn,us,sc,gn,rA,rc,ro,true⟩))))) (fun β w' hs=>by
   have h:=z_ux w' b3 10 ((wdsU (Crd.a ⟨cb,tn,us,sc,gn,rA,rc,ro,true⟩)).map mkS) ⟨#[32]⟩ (by rw [hwl _];exact z_an (hs.get 0 rfl)) (hs.getLt 0 rfl b3 rfl) (by show 10<=1000;decide) (Nat.le_refl 10) (by
    rw [show (⟨#[32]⟩:ByteArray).data.toList=[32] from rfl,z_qd,mapS]
    have:=z_oH (c:=Crd.a ⟨cb,tn,us,sc,gn,rA,rc,ro,true⟩) ok
    omega)
   rw [z_oT,mapS] at h
   exact h) ?_
  refine ⟨subPerm [2],?_⟩
  intro β w' hs
  exact (hs.keepB (List.nil_sublist _)).fin [] ⟨rfl,rfl⟩
theorem z_tO (d:UInt8) (x:List UInt8): ∀L:List (List UInt8),L≠[]->jn d (L++[x])=jn d L++d::x
 | [],h=>absurd rfl h
 | [a],_=>rfl
 | a::b::r,_=>by
  have ih:=z_tO d x (b::r) (by simp)
  show jn d (a::b::(r++[x]))=_
  rw [z_om,z_om,show b::(r++[x])=(b::r)++[x] from rfl,ih]
  simp
set_option maxHeartbeats 1000000 in
theorem z_xO (w:World) (c:Crd) (hr:SRd c.sec.x c.sec.a w) (hro:Rd 1 c.rA c.roles.length (strs c.roles) w) (ok:LnOk c.a):Pu Tryz.prog z_ed #[.agg c.vs.toArray] w (.string (mkS (lnU c.a))):=by
 have g:=z_g3 w (Un [])
 have hml:=maxLen_eq
 obtain ⟨h0,h32,hi1,hi64,hst,hsv,hha⟩:=z_nE ok.s
 have hgl:c.gen<18446744073709551616:=by have:=ok.g;unfold greatN at this;show c.a.gen<_;omega
 refine z_d7 (cx:=z_dN w (Un [])) g z_jI rfl rfl (β:=Va.z) [.agg c.ss] 0 [] [oldF w] rfl rfl (z_ay rfl) ?_
 obtain ⟨cb,tn,us,sc,gn,rA,rc,ro,rv⟩:=c
 replace h0:1<=sc.salt.l.length:=h0
 replace h32:sc.salt.l.length<=32:=h32
 replace hst:sc.stored.l.length=32:=hst
 replace hsv:sc.server.l.length=32:=hsv
 replace hha:sc.ha1.l.length=32:=hha
 replace hi1:1<=sc.iter:=hi1
 replace hi64:sc.iter<=64:=hi64
 replace hro:Rd 1 rA ro.length (strs ro) w:=hro
 replace hgl:gn<18446744073709551616:=hgl
 have hu32:us.data.toList.length<=32:=ok.u
 obtain ⟨k,hk⟩: ∃k:Nat,sc.iter=(k:Int):=⟨sc.iter.toNat,by omega⟩
 have l1:(hexB us.data.toList).length<=64:=by rw [z_fg];omega
 have l2:=z_nm hgl
 have l3:=z_nm (n:=k) (by omega)
 have e1:=z_l5 sc.salt.l
 have e2:=z_l5 sc.stored.l
 have e3:=z_l5 sc.server.l
 have e4:=z_l5 sc.ha1.l
 refine z_ao g ?_
 refine z_ce (ι:=Unit) g (fun _=>True) 1 (fun _=>[(1,.c (.p 0 0)),(2,.c (.v (.string ByteArray.empty))),(3,.c (.v (.string (mkS (jn 32 [userW,hexB us.data.toList,Lib.decDigits gn])))))]) (fun _=>[⟨0,z_af,Crd.ss ⟨cb,tn,us,sc,gn,rA,rc,ro,rv⟩⟩]) (fun _=>[oldF w]) ?_ ?_
 rotate_left
 ·refine z_aj g z_hs (by kernel_rfl) [⟨0,z_af,Crd.ss ⟨cb,tn,us,sc,gn,rA,rc,ro,rv⟩⟩] [oldF w] (subPerm [0]) ?_
  intro b1 b2 q1 q2
  refine ⟨subPerm [1],?_⟩
  refine z_ae (v:= .string (mkS (hexB us.data.toList))) (fun β w' hs=>z_wt w' (some ⟨b1,0,none⟩) us.data.toList b2 (hs.get 0 rfl) (by omega)) ?_
  refine ⟨subPerm [1],?_⟩
  refine ⟨by show 5+(hexB us.data.toList).length<=maxLen;omega,?_⟩
  refine ⟨by rw [z_at];show 5+(hexB us.data.toList).length+1<=maxLen;omega,?_⟩
  refine z_ae (v:= .string (decimS gn)) (fun β w' hs=>dec_c w' gn hgl) ?_
  refine ⟨subPerm [1],?_⟩
  refine ⟨by rw [z_at,z_at];show 5+(hexB us.data.toList).length+1+(Lib.decDigits gn).length<=maxLen;omega,?_⟩
  have e1:((mkS [117,115,101,114,32]++mkS (hexB us.data.toList))++mkS [32])++mkS (Lib.decDigits gn)=mkS (jn 32 [userW,hexB us.data.toList,Lib.decDigits gn]):=by
   rw [z_aq,z_aq,z_aq]
   simp [jn,userW]
  exact EntX.of () trivial (Ent.mk' ⟨rfl,rfl,congrArg (fun s=>some (SV.c (SL.v (Value.string s)))) e1,trivial⟩ rfl (fun β w' hs=>hs.perm [1]))
 rintro _ _
 obtain ⟨P1,hP1⟩: ∃P,jn 32 [userW,hexB us.data.toList,Lib.decDigits gn]=P:=⟨_,rfl⟩
 have hl1:P1.length<=200:=by
  rw [<-hP1]
  simp only [jn,List.length_append,List.length_cons]
  show 4+_<=_
  omega
 rw [hP1]
 refine z_ce (ι:=Unit) g (fun _=>True) 1 (fun _=>[(1,.c (.p 0 0)),(2,.c (.v (.string ByteArray.empty))),(3,.c (.v (.string (mkS (P1++32::(stW rv++[32]))))))]) (fun _=>[⟨0,z_af,Crd.ss ⟨cb,tn,us,sc,gn,rA,rc,ro,rv⟩⟩]) (fun _=>[oldF w]) ?_ ?_
 rotate_left
 ·cases rv with
  | false=>
   refine ⟨by show P1.length+4<=maxLen;omega,?_⟩
   have e1:mkS P1++mkS [32,111,110,32]=mkS (P1++32::(stW false++[32])):=by rw [z_aq];rfl
   exact EntX.of () trivial (Ent.mk' ⟨rfl,rfl,congrArg (fun s=>some (SV.c (SL.v (Value.string s)))) e1,trivial⟩ rfl (fun β w' hs=>hs))
  | true=>
   refine ⟨by show P1.length+5<=maxLen;omega,?_⟩
   have e1:mkS P1++mkS [32,111,102,102,32]=mkS (P1++32::(stW true++[32])):=by rw [z_aq];rfl
   exact EntX.of () trivial (Ent.mk' ⟨rfl,rfl,congrArg (fun s=>some (SV.c (SL.v (Value.string s)))) e1,trivial⟩ rfl (fun β w' hs=>hs))
 rintro _ _
 obtain ⟨P2,hP2⟩: ∃P,P1++32::(stW rv++[32])=P:=⟨_,rfl⟩
 have hl2:P2.length<=300:=by
  rw [<-hP2]
  have:(stW rv).length<=3:=by unfold stW;split<;>decide
  simp only [List.length_append,List.length_cons,List.length_nil]
  omega
 rw [hP2]
 refine z_ao g ?_
 refine z_ce (ι:=Unit) g (fun _=>True) 2 (fun _=>[(1,.c (.p 0 0)),(2,.c (.v (.string ByteArray.empty))),(3,.c (.v (.string (mkS (P2++(Lib.decDigits k++32::(encS false sc.salt.l++32::(encS false sc.stored.l++32::(encS false sc.server.l++32::(encS false sc.ha1.l++[32]))))))))))]) (fun _=>[⟨1,z_as,sc.x.ss⟩,⟨0,z_af,Crd.ss ⟨cb,tn,us,sc,gn,rA,rc,ro,rv⟩⟩]) (fun _=>[oldF w]) ?_ ?_
 rotate_left
 ·refine z_aj g z_hq (by kernel_rfl) [⟨1,z_as,sc.x.ss⟩,⟨0,z_af,Crd.ss ⟨cb,tn,us,sc,gn,rA,rc,ro,rv⟩⟩] [oldF w] (subPerm [0]) ?_
  refine ⟨(k:Int),by show IntKind.u64.wrap sc.iter=_;rw [hk,z_aT];omega,?_⟩
  refine z_ae (v:= .string (decimS k)) (fun β w' hs=>dec_c w' k (by omega)) ?_
  refine ⟨subPerm [0],?_⟩
  refine ⟨by show (Lib.decDigits k).length+1<=maxLen;omega,?_⟩
  refine z_aa [] (fun β w' hs=>z_kj w' sc.salt.A sc.salt.l sc.salt.c false (by omega) ((hs.frOld 0 rfl (bsF sc.salt.A sc.salt.l) rfl hr.r1 (rd_lt hr.r1)).mem.take (js:=[0]) rfl)) ?_
  rintro v Fs ⟨rfl,rfl⟩
  refine ⟨subPerm [0],?_⟩
  refine ⟨by rw [z_at];show (Lib.decDigits k).length+1+(encS false sc.salt.l).length<=maxLen;omega,?_⟩
  refine ⟨by rw [z_at,z_at];show (Lib.decDigits k).length+1+(encS false sc.salt.l).length+1<=maxLen;omega,?_⟩
  refine z_aa [] (fun β w' hs=>z_kj w' sc.stored.A sc.stored.l sc.stored.c false (by omega) ((hs.frOld 0 rfl (bsF sc.stored.A sc.stored.l) rfl hr.r2 (rd_lt hr.r2)).mem.take (js:=[0]) rfl)) ?_
  rintro v Fs ⟨rfl,rfl⟩
  refine ⟨subPerm [0],?_⟩
  refine ⟨by rw [z_at,z_at,z_at];show (Lib.decDigits k).length+1+(encS false sc.salt.l).length+1+(encS false sc.stored.l).length<=maxLen;omega,?_⟩
  refine ⟨by rw [z_at,z_at,z_at,z_at];show (Lib.decDigits k).length+1+(encS false sc.salt.l).length+1+(encS false sc.stored.l).length+1<=maxLen;omega,?_⟩
  refine z_aa [] (fun β w' hs=>z_kj w' sc.server.A sc.server.l sc.server.c false (by omega) ((hs.frOld 0 rfl (bsF sc.server.A sc.server.l) rfl hr.r3 (rd_lt hr.r3)).mem.take (js:=[0]) rfl)) ?_
  rintro v Fs ⟨rfl,rfl⟩
  refine ⟨subPerm [0],?_⟩
  refine ⟨by rw [z_at,z_at,z_at,z_at,z_at];show (Lib.decDigits k).length+1+(encS false sc.salt.l).length+1+(encS false sc.stored.l).length+1+(encS false sc.server.l).length<=maxLen;omega,?_⟩
  refine ⟨by rw [z_at,z_at,z_at,z_at,z_at,z_at];show (Lib.decDigits k).length+1+(encS false sc.salt.l).length+1+(encS false sc.stored.l).length+1+(encS false sc.server.l).length+1<=maxLen;omega,?_⟩
  refine z_aa [] (fun β w' hs=>z_kj w' sc.ha1.A sc.ha1.l sc.ha1.c false (by omega) ((hs.frOld 0 rfl (bsF sc.ha1.A sc.ha1.l) rfl hr.r4 (rd_lt hr.r4)).mem.take (js:=[0]) rfl)) ?_
  rintro v Fs ⟨rfl,rfl⟩
  refine ⟨subPerm [0],?_⟩
  refine ⟨by rw [z_at,z_at,z_at,z_at,z_at,z_at,z_at];show (Lib.decDigits k).length+1+(encS false sc.salt.l).length+1+(encS false sc.stored.l).length+1+(encS false sc.server.l).length+1+(encS false sc.ha1.l).length<=maxLen;omega,?_⟩
  refine ⟨by rw [z_at,z_at,z_at,z_at,z_at,z_at,z_at,z_at];show (Lib.decDigits k).length+1+(encS false sc.salt.l).length+1+(encS false sc.stored.l).length+1+(encS false sc.server.l).length+1+(encS false sc.ha1.l).length+1<=maxLen;omega,?_⟩
  refine ⟨by rw [z_at,z_at,z_at,z_at,z_at,z_at,z_at,z_at,z_at];show P2.length+((Lib.decDigits k).length+1+(encS false sc.salt.l).length+1+(encS false sc.stored.l).length+1+(encS false sc.server.l).length+1+(encS false sc.ha1.l).length+1)<=maxLen;omega,?_⟩
  have e1:mkS P2++(((((((((mkS (Lib.decDigits k)++mkS [32])++mkS (encS false sc.salt.l))++mkS [32])++mkS (encS false sc.stored.l))++mkS [32])++mkS (encS false sc.server.l))++mkS [32])++mkS (encS false sc.ha1.l))++mkS [32])=mkS (P2++(Lib.decDigits k++32::(encS false sc.salt.l++32::(encS false sc.stored.l++32::(encS false sc.server.l++32::(encS false sc.ha1.l++[32])))))):=by
   rw [z_aq,z_aq,z_aq,z_aq,z_aq,z_aq,z_aq,z_aq,z_aq,z_aq]
   simp
  exact EntX.of () trivial (Ent.mk' ⟨rfl,rfl,congrArg (fun s=>some (SV.c (SL.v (Value.string s)))) e1,trivial⟩ rfl (fun β w' hs=>hs))
 rintro _ _
 obtain ⟨P3,hP3⟩: ∃P,P2++(Lib.decDigits k++32::(encS false sc.salt.l++32::(encS false sc.stored.l++32::(encS false sc.server.l++32::(encS false sc.ha1.l++[32])))))=P:=⟨_,rfl⟩
 rw [hP3]
 have hl3:P3.length<=700:=by
  rw [<-hP3]
  simp only [List.length_append,List.length_cons,List.length_nil]
  omega
 have hL:lnU (Crd.a ⟨cb,tn,us,sc,gn,rA,rc,ro,rv⟩)=P3++rolB ro:=by
  have ek:(Crd.a ⟨cb,tn,us,sc,gn,rA,rc,ro,rv⟩).sec.iter.toNat=k:=by show sc.iter.toNat=k;omega
  unfold lnU wdsU
  rw [ek,<-hP3,<-hP2,<-hP1]
  show jn 32 [userW,hexB us.data.toList,Lib.decDigits gn,stW rv,Lib.decDigits k,encS false sc.salt.l,encS false sc.stored.l,encS false sc.server.l,encS false sc.ha1.l,rolB ro]=_
  simp [jn]
 rw [hL]
 clear hL hP1 hP2 hP3
 refine z_ao g ?_
 refine BIf.dec (fun h0=>?_) (fun h0=>?_)
 ·have h00:(ro.length:Int)=0:=h0
  have hl:ro=[]:=List.length_eq_zero_iff.1 (by omega)
  refine ⟨by show P3.length+1<=maxLen;omega,?_⟩
  intro β w' hs
  refine (hs.keepB (List.nil_sublist _)).fin [] ⟨?_,rfl⟩
  show Value.string (mkS P3++mkS [45])=_
  rw [z_aq,hl]
  rfl
 have h00: ¬(ro.length:Int)=0:=h0
 have hne:ro≠[]:=fun e=>h00 (by rw [e];rfl)
 have hn8:ro.length<=8:=ok.n
 have hrs: ∀r∈ro,r.size<=32:=ok.r
 have hrol:rolB ro=jn 44 (ro.map fun r=>r.data.toList):=by unfold rolB;rw [if_neg hne]
 rw [hrol]
 have hjl: ∀i,(jn 44 ((ro.take i).map fun r=>r.data.toList)).length<=264:=fun i=>by
  have h:=jn_le (d:=44) (k:=32) (L:=(ro.take i).map fun r=>r.data.toList) (fun x hx=>by
   obtain ⟨r,hr,rfl⟩:=List.mem_map.1 hx
   exact hrs r (List.mem_of_mem_take hr))
  rw [List.length_map,List.length_take] at h
  omega
 refine z_ao g ?_
 refine z_ai (ι:=Nat) 2 (fun i=>[(1,.c (.p 0 0)),(2,.c (.v (.string ByteArray.empty))),(3,.c (.v (.string (mkS (P3++jn 44 ((ro.take i).map fun r=>r.data.toList)))))),(59,.c (.v (.slice rA ro.length rc))),(60,.c (.v (.int .i64 (ro.length:Int)))),(61,.c (.v (.int .i64 (i:Int))))]) (fun _=>[⟨1,z_as,sc.x.ss⟩,⟨0,z_af,Crd.ss ⟨cb,tn,us,sc,gn,rA,rc,ro,rv⟩⟩]) (fun _=>[oldF w])
  (fun i=>i<=ro.length) (fun i=>ro.length - i) 0 (Nat.zero_le _) (Ent.mk' ⟨rfl,rfl,congrArg (fun s=>some (SV.c (SL.v (Value.string s)))) (by simp [jn]),rfl,rfl,rfl,trivial⟩ rfl (fun β w' hs=>hs)) g ?_
 intro i hi
 have hji:=hjl i
 refine BIf.dec (fun hlt=>?_) (fun hge=>?_)
 ·have hlt0:(i:Int)<ro.length:=hlt
  obtain ⟨y,hy,hym⟩:=at_lt (show i<ro.length by omega)
  obtain ⟨ad,hA,_⟩:=hro.2 (by omega)
  have hyz:=hrs y hym
  have htk:(ro.take (i+1)).map (fun r=>r.data.toList)=(ro.take i).map (fun r=>r.data.toList)++[y.data.toList]:=by
   rw [List.take_add_one,hy]
   simp
  refine ⟨ad,i,hA,rfl,by omega,.string y,fun β w' hs=>Rd.cell1 (by have h:=Rd.old hro (hs.get 0 rfl);rw [hA] at h;exact h) (by simp [strs,hy]),?_⟩
  refine BIf.dec (fun hp=>?_) (fun hp=>?_)
  ·have hp0:(0:Int)<(i:Int):=hp
   have hne2:(ro.take i).map (fun r=>r.data.toList)≠[]:=fun e=>by
    have:=congrArg List.length e
    rw [List.length_map,List.length_take] at this
    simp only [List.length_nil] at this
    omega
   refine ⟨by show (P3++_).length+1<=maxLen;rw [List.length_append];omega,?_⟩
   refine ⟨by rw [z_at];show (P3++_).length+1+y.size<=maxLen;rw [List.length_append];omega,?_⟩
   refine ⟨((i+1:Nat):Int),by rw [wrap_i64 (by omega) (by omega)];rfl,?_⟩
   have e1:(mkS (P3++jn 44 ((ro.take i).map fun r=>r.data.toList))++mkS [44])++y=mkS (P3++jn 44 ((ro.take (i+1)).map fun r=>r.data.toList)):=by
    rw [htk,z_tO 44 _ _ hne2]
    conv=>lhs;rw [<-z_ko y]
    rw [z_aq]
    show mkS _++mkS y.data.toList=_
    rw [z_aq]
    simp
   exact ⟨i+1,by omega,by omega,Ent.mk' ⟨rfl,rfl,congrArg (fun s=>some (SV.c (SL.v (Value.string s)))) e1,rfl,rfl,rfl,trivial⟩ rfl (fun β w' hs=>hs)⟩
  ·have hp0: ¬(0:Int)<(i:Int):=hp
   obtain rfl:i=0:=by omega
   refine ⟨by show (P3++_).length+y.size<=maxLen;rw [List.length_append];omega,?_⟩
   refine ⟨((0+1:Nat):Int),by rw [wrap_i64 (by omega) (by omega)];rfl,?_⟩
   have e1:mkS (P3++jn 44 ((ro.take 0).map fun r=>r.data.toList))++y=mkS (P3++jn 44 ((ro.take (0+1)).map fun r=>r.data.toList)):=by
    rw [htk]
    conv=>lhs;rw [<-z_ko y]
    show mkS _++mkS y.data.toList=_
    rw [z_aq]
    simp [jn]
   exact ⟨0+1,by omega,by omega,Ent.mk' ⟨rfl,rfl,congrArg (fun s=>some (SV.c (SL.v (Value.string s)))) e1,rfl,rfl,rfl,trivial⟩ rfl (fun β w' hs=>hs)⟩
 ·have hge0: ¬(i:Int)<ro.length:=hge
  rw [List.take_of_length_le (by omega)]
  refine z_ao g ?_
  refine z_eT g ?_
  intro β w' hs
  exact (hs.keepB (List.nil_sublist _)).fin [] ⟨rfl,rfl⟩
def Run {α:Type} (st:Nat->List UInt8->α->α->Prop):Nat->List (List UInt8)->α->α->Prop
 | _,[],a,b=>a=b
 | i,l::r,a,b=> ∃m,st i l a m/\Run st (i+1) r m b
theorem Run.app {α:Type} {st:Nat->List UInt8->α->α->Prop}: ∀(p q:List (List UInt8)) (i:Nat) (a b:α),Run st i (p++q) a b↔ ∃m,Run st i p a m/\Run st (i+p.length) q m b
 | [],q,i,a,b=>by simp [Run]
 | l::p,q,i,a,b=>by
  have ih:=Run.app (st:=st) p q (i+1)
  simp only [List.cons_append,Run,List.length_cons]
  constructor
  ·rintro ⟨m,h1,h2⟩
   obtain ⟨n,h3,h4⟩:=(ih m b).1 h2
   exact ⟨n,⟨m,h1,h3⟩,by rw [show i+(p.length+1)=i+1+p.length by omega];exact h4⟩
  ·rintro ⟨n,⟨m,h1,h3⟩,h4⟩
   exact ⟨m,h1,(ih m b).2 ⟨n,h3,by rw [show i+1+p.length=i+(p.length+1) by omega];exact h4⟩⟩
theorem Run.snoc {α:Type} {st:Nat->List UInt8->α->α->Prop} {p:List (List UInt8)} {x:List UInt8} {a m b:α} (h:Run st 0 p a m) (h2:st p.length x m b):Run st 0 (p++[x]) a b:=
 (Run.app p [x] 0 a b).2 ⟨m,h,by rw [Nat.zero_add];exact ⟨b,h2,rfl⟩⟩
theorem Run.one {α:Type} {st:Nat->List UInt8->α->α->Prop} (hf: ∀i l a b c,st i l a b->st i l a c->b=c): ∀(p:List (List UInt8)) (i:Nat) (a b c:α),Run st i p a b->Run st i p a c->b=c
 | [],i,a,b,c,h,k=>h.symm.trans k
 | l::p,i,a,b,c,⟨m,h1,h2⟩,⟨n,k1,k2⟩=>by
  obtain rfl:=hf i l a m n h1 k1
  exact Run.one hf p (i+1) m b c h2 k2
theorem Run.no {α:Type} {st:Nat->List UInt8->α->α->Prop} (hf: ∀i l a b c,st i l a b->st i l a c->b=c) {p q:List (List UInt8)} {x:List UInt8} {a m:α} (h:Run st 0 p a m) (hx: ∀b,¬st p.length x m b) (b:α): ¬Run st 0 (p++x::q) a b:=by
 intro k
 obtain ⟨n,k1,k2⟩:=(Run.app p (x::q) 0 a b).1 k
 obtain rfl:=Run.one hf p 0 a m n h k1
 rw [Nat.zero_add] at k2
 obtain ⟨o,k3,_⟩:=k2
 exact hx o k3
theorem Run.sim {α β:Type} {s:Nat->List UInt8->α->α->Prop} {t:Nat->List UInt8->β->β->Prop} (R:α->β->Prop) (Fm:Nat->List UInt8->Prop) (hst: ∀i l a a' b,R a a'->Fm i l->s i l a b-> ∃b',t i l a' b'/\R b b'):
  ∀(p:List (List UInt8)) (i:Nat) (a:α) (a':β) (b:α),R a a'->(∀j l,p[j]?=some l->Fm (i+j) l)->Run s i p a b-> ∃b',Run t i p a' b'/\R b b'
 | [],i,a,a',b,hR,_,h=>by
  have:a=b:=h
  subst this
  exact ⟨a',rfl,hR⟩
 | l::p,i,a,a',b,hR,hF,⟨m,h1,h2⟩=>by
  obtain ⟨m',k1,k2⟩:=hst i l a a' m hR (hF 0 l rfl) h1
  obtain ⟨b',k3,k4⟩:=Run.sim R Fm hst p (i+1) m m' b k2 (fun j l hl=>by rw [show i+1+j=i+(j+1) by omega];exact hF (j+1) l (by simpa using hl)) h2
  exact ⟨b',⟨m',k1,k3⟩,k4⟩
theorem Run.inv {α:Type} {s:Nat->List UInt8->α->α->Prop} (I:α->Prop) (hst: ∀i l a b,I a->s i l a b->I b): ∀(p:List (List UInt8)) (i:Nat) (a b:α),I a->Run s i p a b->I b
 | [],_,a,b,hI,h=>by
  have:a=b:=h
  exact this▸hI
 | l::p,i,a,b,hI,⟨m,h1,h2⟩=>Run.inv I hst p (i+1) m b (hst i l a m hI h1) h2
def rolS (s:List UInt8):List ByteArray:=if s=[45] then [] else (splL 44 s).map mkS
def nP (s:List UInt8) (n:Nat):Prop:=numOk (mkS s) n
def nR (s:List UInt8) (n:Nat):Prop:=rnum s=some n
structure Par (num:List UInt8->Nat->Prop) (t:ByteArray) (w:List (List UInt8)) (c:ACrd):Prop where
 n:w.length=10
 ten:c.tenant=t
 u:unhexA (w.getD 1 [])=some c.user.data.toList
 g:num (w.getD 2 []) c.gen
 i: ∃r:Nat,num (w.getD 4 []) r/\r<=64/\c.sec.iter=(r:Int)
 a:decP (w.getD 5 [])=some c.sec.salt
 b:decP (w.getD 6 [])=some c.sec.stored
 s:decP (w.getD 7 [])=some c.sec.server
 h:decP (w.getD 8 [])=some c.sec.ha1
 r:c.roles=rolS (w.getD 9 [])
 o:c.revoked=decide (w.getD 3 []=offW)
theorem Par.one {num:List UInt8->Nat->Prop} (hn: ∀s a b,num s a->num s b->a=b) {t:ByteArray} {w:List (List UInt8)} {c d:ACrd} (h:Par num t w c) (k:Par num t w d):c=d:=by
 obtain ⟨r,i1,_,i2⟩:=h.i
 obtain ⟨q,j1,_,j2⟩:=k.i
 obtain rfl:=hn _ _ _ i1 j1
 have e1:=h.ten.trans k.ten.symm
 have e2:c.user=d.user:=by
  have:=Option.some.inj (h.u.symm.trans k.u)
  apply ByteArray.ext
  apply Array.ext'
  exact this
 have e3:=hn _ _ _ h.g k.g
 have e4:=Option.some.inj (h.a.symm.trans k.a)
 have e5:=Option.some.inj (h.b.symm.trans k.b)
 have e6:=Option.some.inj (h.s.symm.trans k.s)
 have e7:=Option.some.inj (h.h.symm.trans k.h)
 have e8:=h.r.trans k.r.symm
 have e9:=h.o.trans k.o.symm
 have e10:=i2.trans j2.symm
 obtain ⟨c1,c2,⟨s1,s2,s3,s4,s5⟩,c4,c5,c6⟩:=c
 obtain ⟨d1,d2,⟨t1,t2,t3,t4,t5⟩,d4,d5,d6⟩:=d
 simp only at e1 e2 e3 e4 e5 e6 e7 e8 e9 e10
 subst e1 e2 e3 e4 e5 e6 e7 e8 e9 e10
 rfl
theorem Par.to {num num':List UInt8->Nat->Prop} {t:ByteArray} {w:List (List UInt8)} {c:ACrd} (h:Par num t w c) (h1:num (w.getD 2 []) c.gen->num' (w.getD 2 []) c.gen) (h2: ∀r,r<=64->num (w.getD 4 []) r->num' (w.getD 4 []) r):Par num' t w c:=by
 obtain ⟨r,i1,i2,i3⟩:=h.i
 exact ⟨h.n,h.ten,h.u,h1 h.g,⟨r,h2 r i2 i1,i2,i3⟩,h.a,h.b,h.s,h.h,h.r,h.o⟩
theorem z_pP (s:List UInt8) (a b:Nat) (h:nP s a) (k:nP s b):a=b:=by
 have:=h.1.symm.trans k.1
 injection this
theorem z_n9 (s:List UInt8) (a b:Nat) (h:nR s a) (k:nR s b):a=b:=Option.some.inj (h.symm.trans k)
theorem nR_P {s:List UInt8} {n:Nat} (h:nR s n):nP s n:=z_vg h
theorem nP_R {s:List UInt8} {n:Nat} (h:nP s n) (hn:n<1000000000000000000):nR s n:=z_vM h (by rw [show (10:Nat)^18=1000000000000000000 by decide];exact hn)
structure FS where
 X:ASto
 t:List UInt8
 s:Bool
def UsrP (t:List UInt8) (l:List UInt8) (c:ACrd):Prop:=Par nP (mkS t) (splL 32 l) c/\(splL 32 l).getD 0 []=userW/\((splL 32 l).getD 3 []=onW\/(splL 32 l).getD 3 []=offW)
def StepP (i:Nat) (l:List UInt8) (a b:FS):Prop:=
 (i=0/\hdA 32 l=lastW/\(∃n,nP (hdB 32 l) n/\raiseA a.X n=(0,b.X))/\b.t=a.t/\b.s=a.s)\/
 (i≠0/\hdA 32 l=tenW/\addT a.X (mkS (hdB 32 l))=(0,b.X)/\b.t=hdB 32 l/\b.s=true)\/
 (i≠0/\hdA 32 l≠tenW/\(∃c,UsrP a.t l c/\loadA a.X c=(0,b.X))/\a.s=true/\b.t=a.t/\b.s=a.s)
theorem StepP.one (i:Nat) (l:List UInt8) (a b c:FS) (h:StepP i l a b) (k:StepP i l a c):b=c:=by
 obtain ⟨b1,b2,b3⟩:=b
 obtain ⟨c1,c2,c3⟩:=c
 rcases h with ⟨h0,h1,⟨n,h2,h3⟩,h4,h5⟩ | ⟨h0,h1,h3,h4,h5⟩ | ⟨h0,h1,⟨x,h2,h3⟩,h6,h4,h5⟩<;>
 rcases k with ⟨k0,k1,⟨m,k2,k3⟩,k4,k5⟩ | ⟨k0,k1,k3,k4,k5⟩ | ⟨k0,k1,⟨y,k2,k3⟩,k6,k4,k5⟩<;>
 first
  | exact absurd h0 k0
  | exact absurd k0 h0
  | exact absurd h1 k1
  | exact absurd k1 h1
  | skip
 ·obtain rfl:=z_pP _ _ _ h2 k2
  simp only at h3 k3 h4 k4 h5 k5
  rw [h3] at k3
  injection k3 with _ k3
  subst k3 h4 k4 h5 k5
  rfl
 ·simp only at h3 k3 h4 k4 h5 k5
  rw [h3] at k3
  injection k3 with _ k3
  subst k3 h4 k4 h5 k5
  rfl
 ·obtain rfl:=Par.one z_pP h2.1 k2.1
  simp only at h3 k3 h4 k4 h5 k5
  rw [h3] at k3
  injection k3 with _ k3
  subst k3 h4 k4 h5 k5
  rfl
structure GS where
 Y:RA
 t:List UInt8
def StepR (i:Nat) (l:List UInt8) (a b:GS):Prop:=
 (i=0/\(splL 32 l).length=2/\(∃n,nR ((splL 32 l).getD 1 []) n/\raiseTR a.Y n=(0,b.Y))/\b.t=a.t)\/
 (i≠0/\(splL 32 l).length=2/\addTR a.Y (mkS ((splL 32 l).getD 1 []))=(0,b.Y)/\b.t=(splL 32 l).getD 1 [])\/
 (i≠0/\(splL 32 l).length≠2/\a.t≠[]/\(∃c,Par nR (mkS a.t) (splL 32 l) c/\loadR a.Y c=(0,b.Y))/\b.t=a.t)
theorem StepR.one (i:Nat) (l:List UInt8) (a b c:GS) (h:StepR i l a b) (k:StepR i l a c):b=c:=by
 obtain ⟨b1,b2⟩:=b
 obtain ⟨c1,c2⟩:=c
 rcases h with ⟨h0,h1,⟨n,h2,h3⟩,h4⟩ | ⟨h0,h1,h3,h4⟩ | ⟨h0,h1,h6,⟨x,h2,h3⟩,h4⟩<;>
 rcases k with ⟨k0,k1,⟨m,k2,k3⟩,k4⟩ | ⟨k0,k1,k3,k4⟩ | ⟨k0,k1,k6,⟨y,k2,k3⟩,k4⟩<;>
 first
  | exact absurd h0 k0
  | exact absurd k0 h0
  | exact absurd h1 k1
  | exact absurd k1 h1
  | skip
 ·obtain rfl:=z_n9 _ _ _ h2 k2
  simp only at h3 k3 h4 k4
  rw [h3] at k3
  injection k3 with _ k3
  subst k3 h4 k4
  rfl
 ·simp only at h3 k3 h4 k4
  rw [h3] at k3
  injection k3 with _ k3
  subst k3 h4 k4
  rfl
 ·obtain rfl:=Par.one z_n9 h2 k2
  simp only at h3 k3 h4 k4
  rw [h3] at k3
  injection k3 with _ k3
  subst k3 h4 k4
  rfl
structure FG (a:FS) (a':GS):Prop where
 j:Jn a.X a'.Y
 t:a.t=a'.t
 s:a.s=true↔a'.t≠[]
theorem z_nk {l:List UInt8} (h:(32:UInt8)∈l):splL 32 l=hdA 32 l::splL 32 (hdB 32 l):=by
 conv=>lhs;rw [z_ip h]
 exact z_jp _ (z_kv 32 l)
theorem z_vL {s:List UInt8} (h:(splL 32 s).length=1):(32:UInt8)∉s:=by
 intro q
 rw [z_nk q] at h
 have:=z_hv 32 (hdB 32 s)
 cases hq:splL 32 (hdB 32 s) with
 | nil=>exact this hq
 | cons a t=>rw [hq] at h;simp at h
theorem z_vG {s:List UInt8} {n:Nat} (h:nP s n):(32:UInt8)∉s/\s≠[]:=by
 have e:Lib.decDigits n=s:=mkS1 (show mkS (Lib.decDigits n)=mkS s from h.2)
 rw [<-e]
 exact ⟨z_kC 32 (by decide) n,(z_oM n n (Nat.le_refl _)).2.2.1⟩
theorem z_wK {l a b:List UInt8} (h:splL 32 l=[a,b]):hdA 32 l=a/\hdB 32 l=b/\(32:UInt8)∉b:=by
 have hm:(32:UInt8)∈l:=by
  by_cases q:(32:UInt8)∈l
  ·exact q
  ·rw [z_bn q] at h;simp at h
 rw [z_nk hm] at h
 injection h with h1 h2
 have hf:=z_vL (s:=hdB 32 l) (by rw [h2];rfl)
 rw [z_bn hf] at h2
 have h3:hdB 32 l=b:=by injection h2
 exact ⟨h1,h3,h3▸hf⟩
theorem z_wv {w:List (List UInt8)} (h:w.length=2):w=[w.getD 0 [],w.getD 1 []]:=by
 match w,h with
 | [a,b],_=>rfl
theorem z_o2 {t:List UInt8} (h:plainF t=true):t≠[]:=by
 unfold plainF at h
 simp only [Bool.and_eq_true,decide_eq_true_eq] at h
 exact h.2.1
theorem z_ua {X X':ASto} {t:ByteArray} (h:addT X t=(0,X')):plainF t.data.toList=true:=by
 unfold addT at h
 cases hp:plainF t.data.toList with
 | true=>rfl
 | false=>
  rw [hp,if_pos rfl] at h
  injection h with h1 _
  cases h1
theorem z_uR {Y Y':RA} {t:ByteArray} (h:addTR Y t=(0,Y')):plainF t.data.toList=true/\Y'= {Y with ts:=insT Y.ts (rank Y.ts t) t}:=by
 unfold addTR at h
 cases hp:plainF t.data.toList with
 | true=>
  refine ⟨rfl,?_⟩
  rw [hp,if_neg (by decide)] at h
  split at h
  ·injection h with h1 _;cases h1
  ·split at h
   ·injection h with h1 _;cases h1
   ·injection h with _ h2;exact h2.symm
 | false=>
  rw [hp,if_pos rfl] at h
  injection h with h1 _
  cases h1
theorem z_vy {X X':ASto} {c:ACrd} (h:loadA X c=(0,X')):c.gen<=greatN:=by
 unfold loadA at h
 split at h
 ·injection h with h1 _;cases h1
 ·split at h
  ·injection h with h1 _;cases h1
  ·rename_i _ q
   exact (Decidable.not_not.1 q).2.2.2.2.2
theorem z_rG {Y Y':RA} {c:ACrd} (h:loadR Y c=(0,Y')):plainF c.tenant.data.toList=true/\allPl c.roles=true/\(∀t∈Y'.ts,t∈Y.ts\/t=c.tenant)/\(∀d∈Y'.cs,d∈Y.cs\/d=c):=by
 unfold loadR at h
 split at h
 ·injection h with h1 _;cases h1
 ·rename_i hp
  have hp2:(plainF c.tenant.data.toList&&allPl c.roles)=true:=by simpa using hp
  rw [Bool.and_eq_true] at hp2
  split at h
  ·injection h with h1 _;cases h1
  ·split at h
   ·injection h with h1 _;cases h1
   ·split at h
    ·injection h with h1 _;cases h1
    ·split at h
     ·injection h with h1 _;cases h1
     ·injection h with _ h2
      subst h2
      refine ⟨hp2.1,hp2.2,fun t ht=>?_,fun d hd=>?_⟩
      ·simp only at ht
       split at ht
       ·exact .inl ht
       ·unfold insT at ht
        rcases List.mem_append.1 ht with q | q
        ·exact .inl (List.mem_of_mem_take q)
        ·rcases List.mem_cons.1 q with q | q
         ·exact .inr q
         ·exact .inl (List.mem_of_mem_drop q)
      ·rcases List.mem_cons.1 ((z_hR _ _).mem_iff.1 hd) with q | q
       ·exact .inr q
       ·exact .inl q
theorem z_uE (i:Nat) (l:List UInt8) (a:FS) (a':GS) (b:FS) (hR:FG a a') (_:True) (h:StepP i l a b): ∃b',StepR i l a' b'/\FG b b':=by
 rcases h with ⟨h0,h1,⟨n,h2,h3⟩,h4,h5⟩ | ⟨h0,h1,h3,h4,h5⟩ | ⟨h0,h1,⟨c,h2,h3⟩,h6,h4,h5⟩
 ·have hf:=z_vG h2
  have hm:(32:UInt8)∈l:=by
   by_cases q:(32:UInt8)∈l
   ·exact q
   ·exact absurd (z_mV q).2 hf.2
  have hs:splL 32 l=[hdA 32 l,hdB 32 l]:=by rw [z_nk hm,z_bn hf.1]
  have hj:=hR.j.raise n
  have hn:n<=greatN:=by
   unfold raiseA at h3
   split at h3
   ·injection h3 with q _;cases q
   ·omega
  obtain ⟨q1,q2⟩:=hj
  rw [h3] at q1 q2
  refine ⟨⟨(raiseTR a'.Y n).2,a'.t⟩,.inl ⟨h0,by rw [hs];rfl,⟨n,by rw [hs];exact nP_R h2 (by unfold greatN at hn;omega),Prod.ext q1.symm rfl⟩,rfl⟩,q2,h4.trans hR.t,by rw [h5];exact hR.s⟩
 ·have hp:=z_ua h3
  rw [mkSo] at hp
  have hm:(32:UInt8)∈l:=by
   by_cases q:(32:UInt8)∈l
   ·exact q
   ·exact absurd (z_mV q).2 (z_o2 hp)
  have hs:splL 32 l=[hdA 32 l,hdB 32 l]:=by rw [z_nk hm,z_bn (z_iw 32 (by decide) hp)]
  obtain ⟨q1,q2⟩:=hR.j.addT (mkS (hdB 32 l))
  rw [h3] at q1 q2
  refine ⟨⟨(addTR a'.Y (mkS (hdB 32 l))).2,hdB 32 l⟩,.inr (.inl ⟨h0,by rw [hs];rfl,by rw [hs];exact Prod.ext q1.symm rfl,by rw [hs];rfl⟩),q2,h4,?_⟩
  rw [h5]
  exact ⟨fun _=>z_o2 hp,fun _=>rfl⟩
 ·obtain ⟨q1,q2⟩:=hR.j.load c
  rw [h3] at q1 q2
  have hg:=z_vy h3
  unfold greatN at hg
  refine ⟨⟨(loadR a'.Y c).2,a'.t⟩,.inr (.inr ⟨h0,by rw [h2.1.n];decide,hR.s.1 h6,⟨c,by rw [<-hR.t];exact h2.1.to (fun q=>nP_R q (by omega)) (fun r hr q=>nP_R q (by omega)),Prod.ext q1.symm rfl⟩,rfl⟩),q2,h4.trans hR.t,by rw [h5];exact hR.s⟩
def Fm (i:Nat) (l:List UInt8):Prop:=(i=0/\ ∃n,l=lnN n)\/(i≠0/\((∃t:ByteArray,plainF t.data.toList=true/\l=lnT t)\/ ∃c:ACrd,allPl c.roles=true/\l=lnU c))
theorem z_xQ (i:Nat) (l:List UInt8) (a':GS) (a:FS) (b':GS) (hR:FG a a') (hF:Fm i l) (h:StepR i l a' b'): ∃b,StepP i l a b/\FG b b':=by
 rcases h with ⟨h0,h1,⟨n,h2,h3⟩,h4⟩ | ⟨h0,h1,h3,h4⟩ | ⟨h0,h1,h6,⟨c,h2,h3⟩,h4⟩
 ·rcases hF with ⟨_,m,rfl⟩ | ⟨q,_⟩
  ·obtain ⟨e1,e2,_⟩:=z_wK (z_sJ m)
   rw [z_sJ] at h2
   obtain ⟨q1,q2⟩:=hR.j.raise n
   rw [h3] at q1 q2
   exact ⟨⟨(raiseA a.X n).2,a.t,a.s⟩,.inl ⟨h0,e1,⟨n,by rw [e2];exact nR_P h2,Prod.ext q1 rfl⟩,rfl,rfl⟩,q2,hR.t.trans h4.symm,by rw [h4];exact hR.s⟩
  ·exact absurd h0 q
 ·rcases hF with ⟨q,_⟩ | ⟨_,⟨t,ht,rfl⟩ | ⟨c,hc,rfl⟩⟩
  ·exact absurd q h0
  ·obtain ⟨e1,e2,_⟩:=z_wK (z_qX ht)
   rw [z_qX ht] at h3 h4
   obtain ⟨q1,q2⟩:=hR.j.addT (mkS t.data.toList)
   rw [show addTR a'.Y (mkS t.data.toList)=(0,b'.Y) from h3] at q1 q2
   refine ⟨⟨(addT a.X (mkS t.data.toList)).2,t.data.toList,true⟩,.inr (.inl ⟨h0,e1,by rw [e2];exact Prod.ext q1 rfl,e2.symm,rfl⟩),q2,h4.symm,?_⟩
   rw [h4]
   exact ⟨fun _=>z_o2 ht,fun _=>rfl⟩
  ·rw [z_sU hc] at h1
   exact absurd h1 (by simp [wdsU])
 ·rcases hF with ⟨q,_⟩ | ⟨_,⟨t,ht,rfl⟩ | ⟨d,hd,rfl⟩⟩
  ·exact absurd q h0
  ·rw [z_qX ht] at h1
   exact absurd rfl h1
  ·have hs:=z_sU hd
   obtain ⟨q1,q2⟩:=hR.j.load c
   rw [h3] at q1 q2
   have hw:hdA 32 (lnU d)≠tenW:=by
    have hm:(32:UInt8)∈lnU d:=by
     by_cases q:(32:UInt8)∈lnU d
     ·exact q
     ·rw [z_bn q] at hs;simp [wdsU] at hs
    rw [z_nk hm] at hs
    injection hs with hs _
    rw [hs]
    decide
   refine ⟨⟨(loadA a.X c).2,a.t,a.s⟩,.inr (.inr ⟨h0,hw,⟨c,⟨?_,?_,?_⟩,Prod.ext q1 rfl⟩,hR.s.2 h6,rfl,rfl⟩),q2,hR.t.trans h4.symm,by rw [h4];exact hR.s⟩
   ·rw [hR.t]
    exact h2.to (fun q=>nR_P q) (fun r hr q=>nR_P q)
   ·rw [hs];rfl
   ·rw [hs]
    show stW d.revoked=_\/stW d.revoked=_
    unfold stW
    split
    ·exact .inr rfl
    ·exact .inl rfl
def RPl (Y:RA):Prop:=(∀t∈Y.ts,plainF t.data.toList=true)/\ ∀c∈Y.cs,allPl c.roles=true
theorem RPl.step (i:Nat) (l:List UInt8) (a b:GS) (hI:RPl a.Y) (h:StepR i l a b):RPl b.Y:=by
 rcases h with ⟨h0,h1,⟨n,h2,h3⟩,h4⟩ | ⟨h0,h1,h3,h4⟩ | ⟨h0,h1,h6,⟨c,h2,h3⟩,h4⟩
 ·unfold raiseTR at h3
  split at h3
  ·injection h3 with q _;cases q
  ·injection h3 with _ q
   rw [<-q]
   exact hI
 ·obtain ⟨q1,q2⟩:=z_uR h3
  rw [q2]
  refine ⟨fun t ht=>?_,hI.2⟩
  have ht':t∈insT a.Y.ts (rank a.Y.ts (mkS ((splL 32 l).getD 1 []))) (mkS ((splL 32 l).getD 1 [])):=ht
  unfold insT at ht'
  rcases List.mem_append.1 ht' with q | q
  ·exact hI.1 t (List.mem_of_mem_take q)
  ·rcases List.mem_cons.1 q with q | q
   ·rw [q];exact q1
   ·exact hI.1 t (List.mem_of_mem_drop q)
 ·obtain ⟨q1,q2,q3,q4⟩:=z_rG h3
  refine ⟨fun t ht=>?_,fun d hd=>?_⟩
  ·rcases q3 t ht with q | q
   ·exact hI.1 t q
   ·rw [q];exact q1
  ·rcases q4 d hd with q | q
   ·exact hI.2 d q
   ·rw [q];exact q2
theorem z_ve {Y:RA} (h:RPl Y): ∀j l,(bodyR Y)[j]?=some l->Fm j l:=by
 intro j l hl
 cases j with
 | zero=>exact .inl ⟨rfl,Y.last,(Option.some.inj hl).symm⟩
 | succ j=>
  right
  refine ⟨Nat.succ_ne_zero j,?_⟩
  have hm:l∈Y.ts.flatMap fun t=>lnT t::(inTA Y.cs t).map lnU:=by
   have:(Y.ts.flatMap fun t=>lnT t::(inTA Y.cs t).map lnU)[j]?=some l:=hl
   exact List.mem_of_getElem? this
  obtain ⟨t,ht,hlt⟩:=List.mem_flatMap.1 hm
  rcases List.mem_cons.1 hlt with rfl | hlt
  ·exact .inl ⟨t,h.1 t ht,rfl⟩
  ·obtain ⟨c,hc,rfl⟩:=List.mem_map.1 hlt
   exact .inr ⟨c,h.2 c (List.mem_filter.1 hc).1,rfl⟩
theorem Fm.free {i:Nat} {l:List UInt8} (h:Fm i l):(10:UInt8)∉l:=by
 rcases h with ⟨_,n,rfl⟩ | ⟨_,⟨t,ht,rfl⟩ | ⟨c,hc,rfl⟩⟩
 ·exact z_vX n
 ·exact z_uP ht
 ·exact z_uJ hc
def fs0:FS:=⟨⟨[],0,0⟩,[],false⟩
def gs0:GS:=⟨⟨[],[],0,0⟩,[]⟩
theorem fg0:FG fs0 gs0:=⟨⟨rfl,rfl,Nat.zero_le _,List.Pairwise.nil,Nat.zero_le _,fun _ h=>(by cases h),List.Pairwise.nil,List.Perm.refl _,List.Pairwise.nil,List.Perm.refl _⟩,rfl,by simp [fs0,gs0]⟩
def OkP (b:List UInt8):Prop:= ∃x,Run StepP 0 (lnL b) fs0 x/\catL (bodyA x.X)=b
def OkR (b:List UInt8):Prop:= ∃y,Run StepR 0 (lnL b) gs0 y/\catL (bodyR y.Y)=b
theorem ok_ok (b:List UInt8):OkP b↔OkR b:=by
 constructor
 ·rintro ⟨x,h1,h2⟩
  obtain ⟨y,k1,k2⟩:=Run.sim FG (fun _ _=>True) z_uE _ 0 fs0 gs0 x fg0 (fun _ _ _=>trivial) h1
  exact ⟨y,k1,by rw [<-k2.j.body];exact h2⟩
 ·rintro ⟨y,h1,h2⟩
  have hp:RPl y.Y:=Run.inv (fun a=>RPl a.Y) RPl.step _ 0 gs0 y ⟨fun _ h=>(by cases h),fun _ h=>(by cases h)⟩ h1
  have hf:=z_ve hp
  have hl:lnL b=bodyR y.Y:=by
   have:=z_qY (bodyR y.Y) [] (fun x hx=>by
    obtain ⟨j,hj⟩:=List.mem_iff_getElem?.1 hx
    exact (hf j x hj).free)
   rw [List.append_nil,h2,z_tz,List.append_nil] at this
   exact this
  obtain ⟨x,k1,k2⟩:=Run.sim (fun a b=>FG b a) Fm z_xQ _ 0 gs0 fs0 y fg0 (fun j l h=>by rw [Nat.zero_add];rw [hl] at h;exact hf j l h) h1
  exact ⟨x,k1,by rw [k2.j.body];exact h2⟩
theorem z_to (a b:List ByteArray):lnB (a++b)=lnB a++lnB b:=by simp [lnB]
theorem z_my (x:ByteArray) (b:List ByteArray):lnB (x::b)=x.data.toList++[10]++lnB b:=by simp [lnB]
structure DumpOk (S:Sto) (ln:ACrd->ByteArray) (Q:Fact):Prop where
 ro:Q.own=false
 keys:KeysOk S.ml
 few:S.ts.length<=1000
 ten: ∀t∈S.names,TenOk S t
 last:(decimS S.last).size<=100
 len:(lnB (lnsA S ln)).length<=1000000
 dec: ∀w,Q.p w->Pu Tryz.prog z_d8 #[.int .u64 (S.last:Int)] w (.string (decimS S.last))
 ln: ∀w (c:Crd),RolOk c->LnOk c.a->Mem w [csF [c],Q]->Pu Tryz.prog z_gl #[.agg c.vs.toArray] w (.string (ln c.a))
theorem z_yx (S:Sto) (ln:ACrd->ByteArray):lnB (lnsA S ln)≠[]:=by
 unfold lnsA
 rw [z_my]
 simp
theorem z_yA (w:World) (S:Sto) (ln:ACrd->ByteArray) (Q:Fact) (ok:DumpOk S ln Q) (hm:Mem w [roX (stoF S),oddF 2,firstF 0,Q]):
  Con Tryz.prog z_gd #[ptr S.b] w [] (fun v Fs=>v= .string (mkS (lnB (lnsA S ln)++sumL (lnB (lnsA S ln))))/\Fs=[]):=by
 have g:=z_jn w (Un [])
 have hne:=z_yx S ln
 have hlen:=ok.len
 refine z_eM (cx:=z_hM w (Un [])) g z_nJ [.c (.v (ptr S.b))] [roX (stoF S),oddF 2,firstF 0,Q] hm ?_ ⟨rfl,rfl,rfl,ok.ro,trivial⟩
 refine z_aa [] (fun β w' hs=>z_lX w' S) ?_
 rintro v Fs ⟨bx,rfl,rfl⟩
 refine z_ec g 0 (fun _=>[.pointer none,.slice none 0 0]) rfl rfl (fun _=>rfl) (fun b=>?_)
 refine z_aG (α:=ByteArray) (ι:=DSt) (κ:=Unit) g rfl (cv:=[.pointer (some ⟨bx,0,none⟩)]) rfl (by kernel_rfl) 1 (Nat.le_refl 1) (fun pre i=>i.l=lnB pre/\pre=(lnsA S ln).take pre.length/\(i.p= .pointer none\/i.p=selfV b)) (fun _=>[]) (fun i=>bldF b i.p i.A i.l i.c) (fun _=>⟨rfl,rfl,trivial⟩) (fun _ _ _=>False) (fun _=>[]) (fun _=>[]) (fun _=>trivial) [bkF bx z_ad [ptr S.b]] [roX (stoF S),Q] [oddF 2,firstF 0] ⟨rfl,trivial⟩ (fun g h=>by
   simp only [List.mem_cons,List.not_mem_nil,or_false] at h
   rcases h with rfl | rfl<;>rfl) ⟨.pointer none,none,[],0⟩ ⟨rfl,rfl,.inl rfl⟩ (fun β w hs=>⟨β,Agr.refl _ _,?_⟩) (insRm (lnsA S ln)) (fun xs Fs'=>xs=lnsA S ln/\Fs'=[]) (fun pre Fs'=>Fs'=[]) (fun l w f0 R J Jx h1 h2 h3 h4 h5=>(z_ye l w bx S ln Q ok.ro ok.keys ok.few ok.ten ok.last ok.dec ok.ln f0 R J Jx h1 h2 h3 h4 h5).mono fun _ _ h=>h) ?_ ?_ ?_
 ·exact (hs.nilRow z_ab 1).perm [2,3,6,1,0,4,5]
 ·rintro ⟨p,A,l,c⟩ pre x args X W S0 l0 bs pn pn' hbs ⟨hl,hpre,hp⟩ ⟨rfl,rfl,hx⟩
  simp only at hl hp
  have hL:=z_pa hpre hx
  have hle:(lnB pre).length+(x.data.toList.length+1)<=1000000:=by
   have h:=hlen
   rw [hL,z_to,z_my] at h
   simp only [List.length_append,List.length_cons,List.length_nil] at h
   omega
  have hxs:x.size=x.data.toList.length:=rfl
  have hxe:x++(⟨#[10]⟩:ByteArray)=mkS (x.data.toList++[10]):=by
   conv=>lhs;rw [<-z_ko x]
   exact z_aq _ [10]
  refine ⟨_,rfl,?_⟩
  refine ⟨by show x.size+1<=maxLen;rw [maxLen_eq];omega,?_⟩
  refine z_aa [1,2] (fun β w' hs=>by
   have h:=z_lA w' b p A l c (x.data.toList++[10]) hp (by rw [hl];omega) (by rw [List.length_append];show _+1<=_;omega) (hs.mem.take (js:=[1,2]) rfl)
   rw [<-hxe] at h
   exact h) ?_
  rintro v Fs ⟨rfl,A2,c2,rfl⟩
  refine ⟨⟨selfV b,A2,l++(x.data.toList++[10]),c2⟩,⟨?_,z_oK hpre hx,.inr rfl⟩,Ent.mk' trivial rfl (fun β w' hs=>?_)⟩
  ·show l++(x.data.toList++[10])=lnB (pre++[x])
   rw [hl,z_to,z_my]
   simp [lnB]
  ·exact hs.perm [0,1]
 ·rintro xs ⟨p,A,l,c⟩ Fs ⟨hl,hpre,hp⟩ ⟨rfl,rfl⟩
  simp only at hl hp
  subst hl
  generalize lnB (lnsA S ln)=l at *
  refine z_aa [0,1] (fun β w' hs=>z_uC w' b p A l c hne (hs.mem.take (js:=[0,1]) rfl)) ?_
  rintro v Fs ⟨rfl,gb,rfl,h1,h2,rfl⟩
  refine z_aa [0,1] (fun β w' hs=>z_tq w' b gb p l c hne h1 h2 (hs.mem.take (js:=[0,1]) rfl)) ?_
  rintro v Fs ⟨rfl,rfl⟩
  refine z_ae (v:= .string (mkS (sumL l))) (fun β w' hs=>z_fM w' l hlen (hs.get 2 rfl) (hs.get 3 rfl)) ?_
  refine ⟨by show l.length+(sumL l).length<=maxLen;rw [z_cY,maxLen_eq];omega,?_⟩
  intro β w' hs
  refine hs.fin [] ⟨?_,rfl⟩
  show Value.string (mkS l++mkS (sumL l))=_
  rw [z_aq]
 ·rintro e pre j Fs h
  exact h.elim
structure StoOk (S:Sto):Prop where
 ok:KeysOk S.ml
 tn:S.ts.length<=1000
 us: ∀T∈S.ts,KeysOk T.m/\T.us.length<=1000/\ ∀c∈T.us,CSz c.a
 all:(allU S.a.ts).length<=1000
theorem Jn.csl {X:ASto} {Y:RA} (h:Jn X Y):Y.cs.length<=256:=by
 rw [h.csp.length_eq]
 have key: ∀ts:ATs,(∀p∈ts,p.2.length<=32)->(ts.flatMap (·.2)).length<=ts.length*32:=by
  intro ts
  induction ts with
  | nil=>intro _;exact Nat.zero_le _
  | cons p r ih=>
   intro h
   have h1:=h p List.mem_cons_self
   have h2:=ih fun q hq=>h q (List.mem_cons_of_mem _ hq)
   rw [List.flatMap_cons,List.length_append,List.length_cons]
   omega
 have:=key X.ts fun p hp=>(h.tw p hp).len
 have:=h.len
 omega
theorem Jn.rsWf {X:ASto} {R:RS} (h:Jn X R.a) (tc:R.ts.length<=R.tc) (lc:R.cs.length<=R.lc) (mem: ∀c∈R.cs,inP R.ps c):R.Wf:=by
 have h1:R.ts.length=X.ts.length:=h.tlen
 have h2:=h.len
 have h3:=h.csl
 have h4:R.a.cs.length=R.cs.length:=List.length_map _
 refine ⟨tc,lc,by omega,by omega,h.tsr,mem,fun c hc=>?_⟩
 have:=h.wf (c:=c.a) (List.mem_map.2 ⟨c,hc,rfl⟩)
 exact ⟨this.r,this.r8⟩
theorem z_vT {a:ASec} (h:rightA a=true):ASz a:=by
 unfold rightA saltedA at h
 simp only [Bool.and_eq_true,decide_eq_true_eq] at h
 exact ⟨by omega,by omega,by omega,by omega⟩
theorem Jn.stoOk {S:Sto} {Y:RA} (h:Jn S.a Y):StoOk S:=by
 have hml:=maxLen_eq
 have e0:S.ml.map (·.1)=S.a.ts.map (·.1):=by
  show _=(S.ts.map Ten.a).map _
  rw [Sto.ml,List.map_map,List.map_map]
  rfl
 have hl:S.ts.length=S.a.ts.length:=(List.length_map _).symm
 have h8:=h.len
 refine ⟨⟨by rw [e0];exact h.nd,fun p hp=>?_⟩,by omega,fun T hT=>?_,by rw [h.all];have:=h.csl;omega⟩
 ·have:p.1∈S.a.ts.map (·.1):=by rw [<-e0];exact List.mem_map.2 ⟨p,hp,rfl⟩
  obtain ⟨q,hq,e⟩:=List.mem_map.1 this
  have:=(h.tw q hq).sz
  rw [<-e,hml]
  omega
 ·have hw:=h.tw T.a (List.mem_map.2 ⟨T,hT,rfl⟩)
  have e1:T.m.map (·.1)=T.a.2.map (·.user):=by
   show _=(T.us.map Crd.a).map _
   rw [Ten.m,List.map_map,List.map_map]
   rfl
  have hc: ∀c∈T.us,CWf T.name S.last c.a:=fun c hc=>hw.cs c.a (List.mem_map.2 ⟨c,hc,rfl⟩)
  have hlen:T.us.length=T.a.2.length:=(List.length_map _).symm
  have h32:=hw.len
  refine ⟨⟨by rw [e1];exact hw.nd,fun p hp=>?_⟩,by omega,fun c hcm=>⟨z_vT (hc c hcm).s,by have:=(hc c hcm).r8;omega⟩⟩
  obtain ⟨c,hcm,rfl⟩:=List.mem_map.1 hp
  have:=(hc c hcm).n
  have h2:=z_pI c.user
  rw [show nameA c.user=_ from this] at h2
  rw [hml]
  show c.user.size<=_
  have h3:c.user.size<=32:=h2
  omega
theorem Jn.roles {X:ASto} {Y:RA} (h:Jn X Y):RolesOk X:=by
 intro t u c hc
 obtain ⟨A,B,U,V,P,Q,b⟩:=h.both hc
 exact ⟨by have:=b.wf.r8;omega,b.wf.r⟩
def lnP (c:ACrd):ByteArray:=mkS (lnU c)
theorem z_td (L:List (List UInt8)):lnB (L.map mkS)=catL L:=by
 induction L with
 | nil=>rfl
 | cons a r ih=>
  rw [List.map_cons,z_my,z_bX,ih,mkSo]
  simp
theorem z_ys (t:ByteArray):tenB++t=mkS (lnT t):=by
 conv=>lhs;rw [<-z_ko t]
 show mkS _++mkS _=_
 rw [z_aq]
 rfl
theorem z_xt (n:Nat):rlB++decimS n=mkS (lnN n):=by
 show mkS _++mkS _=_
 rw [z_aq]
 rfl
theorem z_x0 (S:Sto) (t:ByteArray):usO S t=usL ((aten S.a.ts t).getD []):=by
 unfold usO
 rcases z_cW t S.ts with ⟨A,T,B,_,h0,_,_,h3,_⟩ | ⟨_,h2,h3⟩
 ·rw [h0,show aten S.a.ts t=_ from h3]
  rfl
 ·rw [h3,show aten S.a.ts t=none from h2]
  exact (List.perm_nil.1 (z_kq (us:=[]) List.nodup_nil)).symm
theorem z_vk (S:Sto):S.names=sortK (S.a.ts.map (·.1)):=by
 unfold Sto.names Sto.ml Sto.a
 rw [List.map_map,List.map_map]
 rfl
theorem z_uo (S:Sto):lnsA S lnP=(bodyA S.a).map mkS:=by
 unfold lnsA bodyA
 rw [List.map_cons,<-z_xt,z_vk]
 congr 1
 rw [List.map_flatMap]
 congr 1
 funext t
 unfold tlA
 rw [List.map_cons,<-z_ys,z_x0,List.map_map]
 rfl
theorem z_kN {t:ByteArray} (h:plainF t.data.toList=true):t.size<=32:=z_lw h
theorem Jn.lnOk {X:ASto} {Y:RA} (h:Jn X Y) (hp:RPl Y) {c:ACrd} (hc:c∈Y.cs):LnOk c:=by
 have hw:=h.wf hc
 have hg:=h.great
 have hgl:=hw.g
 have hl:=z_pI c.user
 rw [hw.n] at hl
 refine ⟨fun e=>?_,hl,hw.s,by omega,hw.r8,fun r hr=>z_kN (List.all_eq_true.1 (hp.2 c hc) r hr)⟩
 have h1:=hw.n
 unfold nameA sizF at h1
 have hu:c.user=mkS []:=by
  apply ByteArray.ext
  apply Array.ext'
  exact e
 split at h1
 ·split at h1
  ·injection h1 with _ h2;exact absurd h2 (by decide)
  ·split at h1
   ·injection h1 with _ h2;exact absurd h2 (by decide)
   ·rename_i _ hne _
    injection h1 with h2 _
    have h3:=h2.trans hu
    exact hne (mkS1 h3)
 ·rename_i hne
  injection h1 with _ h2
  exact hne h2
theorem z_pj {α:Type} (f:α->List (List UInt8)) (k:Nat): ∀l:List α,(∀x∈l,(catL (f x)).length<=k)->(catL (l.flatMap f)).length<=l.length*k
 | [],_=>Nat.zero_le _
 | a::r,h=>by
  have ih:=z_pj f k r (fun x hx=>h x (List.mem_cons_of_mem _ hx))
  have ha:=h a List.mem_cons_self
  rw [List.flatMap_cons,z_iy,List.length_append,List.length_cons,Nat.add_mul]
  omega
theorem z_rS {X:ASto} {Y:RA} (h:Jn X Y) (hp:RPl Y):(catL (bodyR Y)).length<=700000:=by
 unfold bodyR
 have hg:=h.great
 unfold greatN at hg
 have hd:=z_nm (n:=Y.last) (by rw [<-h.last];omega)
 have hl:(lnN Y.last).length=5+(Lib.decDigits Y.last).length:=by simp [lnN,lastW];omega
 have ht:=h.tlen
 have h8:=h.len
 rw [z_bX,List.length_append,List.length_cons]
 have key:=z_pj (fun t=>lnT t::(inTA Y.cs t).map lnU) 85000 Y.ts (fun t ht=>by
  rw [z_bX,List.length_append,List.length_cons]
  have h1:=z_kN (hp.1 t ht)
  have h2:(lnT t).length=7+t.size:=by
   unfold lnT
   rw [List.length_append,List.length_cons]
   show 6+(t.size+1)=_
   omega
  have h3:(inTA Y.cs t).length<=32:=by
   rw [h.inTl]
   cases hq:aten X.ts t with
   | none=>exact Nat.zero_le _
   | some us=>
    obtain ⟨A,B,e,_⟩:=z_ej hq
    exact (h.tw (t,us) (by rw [e];simp)).len
  have h4:(catL ((inTA Y.cs t).map lnU)).length<=(inTA Y.cs t).length*2651:=by
   have:=z_pj (fun c=>[lnU c]) 2651 (inTA Y.cs t) (fun c hc=>by
    have:=z_oH (h.lnOk hp (List.mem_filter.1 hc).1)
    rw [z_bX,List.length_append,List.length_cons]
    show (jn 32 (wdsU c)).length+((catL []).length+1)<=_
    show (jn 32 (wdsU c)).length+(0+1)<=_
    omega)
   rw [<-List.map_eq_flatMap] at this
   exact this
  omega)
 omega
theorem z_uh {S:Sto} {Y:RA} (h:Jn S.a Y) (hp:RPl Y):DumpOk S lnP powF:=by
 have hk:=h.stoOk
 have hg:=h.great
 unfold greatN at hg
 have hg2:S.last<=9007199254740992:=hg
 refine ⟨rfl,hk.ok,hk.tn,fun t ht=>?_,?_,?_,fun w hw=>z_d9 w S.last (by omega) (z_gM hw),fun w c hz hc hm=>z_x5 w c hz hc hm⟩
 ·have h1:=z_hK (z_sW ht)
  rcases z_cW t S.ts with ⟨A,T,B,e,h0,hn,_,_,_⟩ | ⟨h2,_,_⟩
  ·have hT:T∈S.ts:=by rw [e];simp
   obtain ⟨q1,q2,q3⟩:=hk.us T hT
   have hTa:T.a∈S.a.ts:=List.mem_map.2 ⟨T,hT,rfl⟩
   refine ⟨A,B,T,e,h0,q1,q2,q3,?_,fun c hc=>?_⟩
   ·have h3:=(h.tw T.a hTa).sz
    have h4:T.name.size<=32:=h3
    rw [<-hn]
    omega
   ·refine h.lnOk hp (h.csp.mem_iff.2 (List.mem_flatMap.2 ⟨T.a,hTa,List.mem_map.2 ⟨c,hc,rfl⟩⟩))
  ·exact absurd h2 h1
 ·have:=z_ll (n:=S.last) (by omega)
  omega
 ·rw [z_uo,z_td,h.body]
  have:=z_rS h hp
  omega
def dumpL (X:ASto):List UInt8:=catL (bodyA X)++sumL (catL (bodyA X))
theorem z_xJ (w:World) (S:Sto) {Y:RA} (h:Jn S.a Y) (hp:RPl Y) (hm:Mem w [roX (stoF S),oddF 2,firstF 0,powF]):
  Con Tryz.prog z_gd #[ptr S.b] w [] (fun v Fs=>v= .string (mkS (dumpL S.a))/\Fs=[]):=by
 have k:=z_yA w S lnP powF (z_uh h hp) hm
 rw [z_uo,z_td] at k
 exact k
def dumpR (Y:RA):List UInt8:=catL (bodyR Y)++sumL (catL (bodyR Y))
theorem z_tV {L M:List (List UInt8)} {Z:List (List UInt8)} (h:Z=L++M):(catL L).length<=(catL Z).length:=by
 rw [h,z_iy,List.length_append]
 omega
theorem z_s0 (x:List UInt8):catL [x]=x++[10]:=by simp [catL]
theorem z_oY {α:Type} {l:List α} {i:Nat} {x:α} (h:l[i]?=some x):l=l.take i++x::l.drop (i+1):=by
 conv=>lhs;rw [<-List.take_append_drop i l]
 obtain ⟨h1,e⟩:=List.getElem?_eq_some_iff.1 h
 rw [List.drop_eq_getElem_cons h1,e]
set_option maxHeartbeats 1000000 in
theorem z_tj (w:World) (R:RS) {X:ASto} (hj:Jn X R.a) (hp:RPl R.a) (hw:R.Wf) (hm:Mem w [roX (rsF R),oddF 1]):
  Pu Tryz.prog z_ee #[ptr R.b] w (.string (mkS (dumpR R.a))):=by
 have g:=z_hd w (Un [])
 have hml:=maxLen_eq
 have h:(rsF R).p w:=hm.fact (roX (rsF R)) (by simp)
 have hl: ∀k,(rsF R).D k->k<w.heap.size:=fun k hk=>hm.flt (roX (rsF R)) (by simp) k hk
 have h1:(oddF 1).p w:=hm.fact _ (by simp)
 have ho: ∀w',(oldF w).p w'->(rsF R).p w':=fun w' h2=>z_bt h hl h2
 have hg:=hj.great
 have hge:=hj.last
 unfold greatN at hg
 have hgl:R.last<18446744073709551616:=by have:X.last=R.last:=hge;omega
 have hbl:=z_rS hj hp
 have htn:=hw.tn
 have hok: ∀c∈R.cs,LnOk c.a:=fun c hc=>hj.lnOk hp (List.mem_map.2 ⟨c,hc,rfl⟩)
 have htz: ∀t∈R.ts,t.size<=32:=fun t ht=>z_kN (hp.1 t ht)
 refine z_d7 (cx:=z_dz w (Un [])) g z_jQ rfl rfl (β:=Va.z) [.c (.v (ptr R.b))] 0 [] [oldF w] rfl rfl (z_ay rfl) ?_
 refine z_ao g ?_
 refine z_ao g ?_
 refine z_ao g ?_
 refine ⟨.int .u64 (R.last:Int),fun β w' hs=>bkc (rs_bk (ho w' (hs.get 0 rfl))) rfl,?_⟩
 refine z_ae (v:= .string (decimS R.last)) (fun β w' hs=>dec_c w' R.last hgl) ?_
 have l2:=z_nm hgl
 refine ⟨by show 5+(Lib.decDigits R.last).length<=maxLen;omega,?_⟩
 refine ⟨by rw [z_at];show 5+(Lib.decDigits R.last).length+1<=maxLen;omega,?_⟩
 refine z_ao g ?_
 refine ⟨.slice R.tA R.ts.length R.tc,fun β w' hs=>bkc (rs_bk (ho w' (hs.get 0 rfl))) rfl,?_⟩
 obtain ⟨Ft,hFt⟩: ∃Ft:ByteArray->List (List UInt8),∀t,Ft t=lnT t::(inTA R.a.cs t).map lnU:=⟨_,fun _=>rfl⟩
 have hB:bodyR R.a=lnN R.last::R.ts.flatMap Ft:=by
  have:Ft=fun t=>lnT t::(inTA R.a.cs t).map lnU:=funext hFt
  rw [this]
  rfl
 obtain ⟨L,hL⟩: ∃L:Nat->List (List UInt8),∀i,L i=lnN R.last::(R.ts.take i).flatMap Ft:=⟨_,fun _=>rfl⟩
 have hL0:mkS [108,97,115,116,32]++mkS (Lib.decDigits R.last)++mkS [10]=mkS (catL (L 0)):=by
  rw [hL,z_aq,z_aq]
  simp [catL,lnN,lastW]
 refine z_ai (ι:=Nat) 0 (fun i=>[(0,.c (.v (ptr R.b))),(3,.c (.v (.string (mkS (catL (L i)))))),(20,.c (.v (.slice R.tA R.ts.length R.tc))),(21,.c (.v (.int .i64 (R.ts.length:Int)))),(22,.c (.v (.int .i64 (i:Int))))]) (fun _=>[]) (fun _=>[oldF w])
  (fun i=>i<=R.ts.length) (fun i=>R.ts.length - i) 0 (Nat.zero_le _) (Ent.mk' ⟨rfl,congrArg (fun s=>some (SV.c (SL.v (Value.string s)))) hL0,rfl,rfl,rfl,trivial⟩ rfl (fun β w' hs=>hs)) g ?_
 intro i hi
 refine BIf.dec (fun hlt=>?_) (fun hge=>?_)
 ·have hlt0:(i:Int)<R.ts.length:=hlt
  obtain ⟨t,ht,htm⟩:=at_lt (show i<R.ts.length by omega)
  obtain ⟨ad,hA,_⟩:=(rs_ts h).2 (by omega)
  have htz1:=htz t htm
  have hsp:=z_oY ht
  have hL1:L (i+1)=L i++Ft t:=by
   rw [hL,hL,List.take_add_one,ht,List.flatMap_append,List.cons_append]
   simp
  have hBL:bodyR R.a=L i++(Ft t++(R.ts.drop (i+1)).flatMap Ft):=by
   rw [hB,hL,List.cons_append]
   conv=>lhs;rw [hsp]
   rw [List.flatMap_append,List.flatMap_cons]
  have hLi:=z_tV hBL
  refine ⟨ad,i,hA,rfl,by omega,.string t,fun β w' hs=>Rd.cell1 (by have h:=rs_ts (ho w' (hs.get 0 rfl));rw [hA] at h;exact h) (by simp [strs,ht]),?_⟩
  refine ⟨by show 7+t.size<=maxLen;omega,?_⟩
  refine ⟨by rw [z_at];show 7+t.size+1<=maxLen;omega,?_⟩
  refine ⟨by rw [z_at,z_at];show (catL (L i)).length+(7+t.size+1)<=maxLen;omega,?_⟩
  refine z_aa [] (fun β w' hs=>z_pQ w' R t (ho w' (hs.get 0 rfl)) (fun k hk=>Nat.lt_of_lt_of_le (hl k hk) hs.chg.size) hw.ln) ?_
  rintro v Fs ⟨A2,c2,rfl,hA2,rfl⟩
  obtain ⟨us,hus⟩: ∃us,inTs R.cs t=us:=⟨_,rfl⟩
  have hua:inTA R.a.cs t=us.map Crd.a:=by rw [<-hus,z_wI];rfl
  have hum: ∀c∈us,c∈R.cs:=fun c hc=>by rw [<-hus] at hc;exact (List.mem_filter.1 hc).1
  have hul:us.length<=1000:=by
   rw [<-hus]
   exact Nat.le_trans (List.length_filter_le _ _) hw.ln
  rw [hus] at hA2 ⊢
  have hF:Ft t=lnT t::us.map (fun c=>lnU c.a):=by rw [hFt,hua,List.map_map];rfl
  have hm0:mkS (catL (L i))++((mkS [116,101,110,97,110,116,32]++t)++mkS [10])=mkS (catL (L i++lnT t::(us.take 0).map (fun c=>lnU c.a))):=by
   conv=>lhs;rw [<-z_ko t]
   show mkS _++((mkS _++mkS t.data.toList)++mkS _)=_
   rw [z_aq,z_aq,z_aq,z_iy]
   simp [catL,lnT,tenW]
  refine z_ai (ι:=Nat) 0 (fun k=>[(0,.c (.v (ptr R.b))),(3,.c (.v (.string (mkS (catL (L i++lnT t::(us.take k).map (fun c=>lnU c.a))))))),(20,.c (.v (.slice R.tA R.ts.length R.tc))),(21,.c (.v (.int .i64 (R.ts.length:Int)))),(22,.c (.v (.int .i64 (i:Int)))),(33,.c (.v (.slice A2 us.length c2))),(34,.c (.v (.int .i64 (us.length:Int)))),(35,.c (.v (.int .i64 (k:Int))))]) (fun _=>[]) (fun _=>[crowF A2 us c2,oldF w])
   (fun k=>k<=us.length) (fun k=>us.length - k) 0 (Nat.zero_le _) (Ent.mk' ⟨rfl,congrArg (fun s=>some (SV.c (SL.v (Value.string s)))) hm0,rfl,rfl,rfl,rfl,rfl,rfl,trivial⟩ rfl (fun β w' hs=>hs)) g ?_
  intro k hk
  refine BIf.dec (fun klt=>?_) (fun kge=>?_)
  ·have klt0:(k:Int)<us.length:=klt
   obtain ⟨c,hc,hcm⟩:=at_lt (show k<us.length by omega)
   have hcR:=hum c hcm
   obtain ⟨ad2,hAd2⟩:=hA2 (by omega)
   obtain ⟨hi1,hi2,_⟩:=hw.mem c hcR
   have hspc:=z_oY hc
   have hBL2:bodyR R.a=(L i++lnT t::(us.take (k+1)).map (fun c=>lnU c.a))++((us.drop (k+1)).map (fun c=>lnU c.a)++(R.ts.drop (i+1)).flatMap Ft):=by
    rw [hBL,hF]
    have e:us.map (fun c=>lnU c.a)=(us.take (k+1)).map (fun c=>lnU c.a)++(us.drop (k+1)).map (fun c=>lnU c.a):=by rw [<-List.map_append,List.take_append_drop]
    rw [e]
    simp only [List.append_assoc,List.cons_append]
   have hLk:=z_tV hBL2
   have htk:L i++lnT t::(us.take (k+1)).map (fun c=>lnU c.a)=(L i++lnT t::(us.take k).map (fun c=>lnU c.a))++[lnU c.a]:=by
    rw [List.take_add_one,hc]
    simp
   rw [htk,z_iy,z_s0,List.length_append,List.length_append] at hLk
   refine ⟨ad2,k,hAd2,rfl,by omega,c.vs,rfl,fun β w' hs=>z_kL (z_an (hs.get 0 rfl)) hAd2 hc,?_⟩
   refine z_ae (v:= .string (mkS (lnU c.a))) (fun β w' hs=>z_xO w' c (rs_po (ho w' (hs.get 1 rfl)) _ hi1) (rs_po (ho w' (hs.get 1 rfl)) _ hi2) (hok c hcR)) ?_
   obtain ⟨lu,hlu⟩: ∃lu,lnU c.a=lu:=⟨_,rfl⟩
   rw [hlu] at hLk htk ⊢
   have hl1:([10]:List UInt8).length=1:=rfl
   refine ⟨by show lu.length+1<=maxLen;omega,?_⟩
   refine ⟨by rw [z_at];show (catL _).length+(lu.length+1)<=maxLen;omega,?_⟩
   refine ⟨((k+1:Nat):Int),by rw [wrap_i64 (by omega) (by omega)];rfl,?_⟩
   have e1:mkS (catL (L i++lnT t::(us.take k).map (fun c=>lnU c.a)))++(mkS lu++mkS [10])=mkS (catL (L i++lnT t::(us.take (k+1)).map (fun c=>lnU c.a))):=by
    rw [htk,z_aq,z_aq,z_iy _ [lu],z_s0]
   exact ⟨k+1,by omega,by omega,Ent.mk' ⟨rfl,congrArg (fun s=>some (SV.c (SL.v (Value.string s)))) e1,rfl,rfl,rfl,rfl,rfl,rfl,trivial⟩ rfl (fun β w' hs=>((hs.keepB (List.nil_sublist _)).perm [0,1]).lower)⟩
  ·have kge0: ¬(k:Int)<us.length:=kge
   refine ⟨(((i+1):Nat):Int),by rw [wrap_i64 (by omega) (by omega)];rfl,?_⟩
   have e1:mkS (catL (L i++lnT t::(us.take k).map (fun c=>lnU c.a)))=mkS (catL (L (i+1))):=by
    rw [hL1,hF,List.take_of_length_le (by omega)]
   exact ⟨i+1,by omega,by omega,Ent.mk' ⟨rfl,congrArg (fun s=>some (SV.c (SL.v (Value.string s)))) e1,rfl,rfl,rfl,trivial⟩ rfl (fun β w' hs=>hs.perm [1])⟩
 ·have hge0: ¬(i:Int)<R.ts.length:=hge
  have hLe:L i=bodyR R.a:=by rw [hL,hB,List.take_of_length_le (by omega)]
  rw [hLe]
  refine z_ao g ?_
  refine z_ae (v:= .string (mkS (dumpR R.a))) (fun β w' hs=>z_na w' (catL (bodyR R.a)) (by omega) (Rd.old h1 (hs.get 0 rfl))) ?_
  refine z_eT g ?_
  intro β w' hs
  exact hs.fin [] ⟨rfl,rfl⟩
theorem z_j8 (w:World) (s:List UInt8) (ok:Bool) (hL:s.length<=1000000):Con Tryz.prog z_jm #[.string (mkS s),.bool ok] w [] fun v Fs=> ∃A l c b,v= .tuple #[.slice A l.length c,.bool b]/\l.length<=c/\((b=true/\ok=true/\decP s=some l)\/(b=false/\(ok=false\/decP s=none)))/\Fs=[browF z_ab A l c]:=by
 have g:=z_lk w (Un [])
 refine z_ac (cx:=z_ib w (Un [])) g z_n0 rfl rfl (β:=Va.z) [.c (.v (.string (mkS s))),.c (.v (.bool ok))] 0 [] [] rfl rfl (Sat.start rfl) ?_
 refine z_aa [] (fun β w' hs=>z_wi w' s hL) ?_
 rintro v Fs ⟨A,l,c,e,rfl,hd,hlc,rfl⟩
 cases ok with
 | false=>
  intro β w' hs
  exact hs.fin [0] ⟨A,l,c,false,rfl,hlc,.inr ⟨rfl,.inl rfl⟩,rfl⟩
 | true=>
  intro β w' hs
  refine hs.fin [0] ⟨A,l,c,decide (e=0),rfl,hlc,?_,rfl⟩
  rcases hd with ⟨h1,h2⟩ | ⟨h1,h2⟩
  ·exact .inl ⟨by simp [h1],rfl,h2⟩
  ·exact .inr ⟨by simp [h1],.inr h2⟩
theorem z_uB (w:World) (s:List UInt8) (d:UInt8) (hs:s.length<=1000000) (hm:mlF.p w):Pu Tryz.prog z_oD #[.string (mkS s),.string (mkS [d])] w (.tuple #[.string (mkS (hdA d s)),.string (mkS (hdB d s)),.bool (decide (d∈s))]):=by
 obtain ⟨m,hm⟩:=hm
 have hsz:(mkS s).size<4294967281:=by show s.length<_;omega
 refine pu_of (Calls.mono (Tryz.strings_Cut (mkS s) (mkS [d]) m w hsz hm) ?_)
 rintro e w' ⟨rfl,q,rfl⟩
 refine ⟨_,rfl,?_,⟨rfl,rfl,rfl,Nat.le_refl _,fun _ _ _=>rfl⟩⟩
 rw [mkSo,mkSo,z_xc]
 rfl
theorem z_uG {d:UInt8}: ∀ {s:List UInt8},s≠[]->(hdB d s).length<s.length
 | [],h=>absurd rfl h
 | c::r,_=>by
  rw [z_mw]
  split
  ·simp
  ·cases r with
   | nil=>simp [hdB]
   | cons a t=>
    have:=z_uG (d:=d) (s:=a::t) (by simp)
    simp only [List.length_cons] at this ⊢
    omega
def insLn (L:List (List UInt8)) (pre:List (List UInt8)) (x:List UInt8) (args:Array Value) (X:Fact):Prop:=args= #[.int .i64 ((pre.length+1:Nat):Int),.string (mkS x)]/\X=noF/\L[pre.length]?=some x
def lnEnd (L:List (List UInt8)) (J Jx:List (List UInt8)->Fact->Prop) (Fs:List Fact):Prop:=
 ∃f Fs',Fs=f::Fs'/\((∃xs,J xs f/\xs=L/\Fs'=[])\/(∃pre,Jx pre f/\Fs'=[]))
theorem z_rm (l:Nat) (w:World) (bx:Nat) (s:List UInt8) (hs:s.length<=1000000) (f0 R:Fact) (J Jx:List (List UInt8)->Fact->Prop) (hJ0:J [] f0) (hJo: ∀pre f,J pre f->f.own=true) (hRo:R.own=false) (hY:Yc Tryz.prog l J Jx R (insLn (lnL s)))
  (hm:Mem w (f0::R::[bkF bx z_ag [.string (mkS s)],mlF])):
  Con Tryz.prog z_fp #[.func (.yield l) #[] #[],.pointer (some ⟨bx,0,none⟩)] w [f0,bkF bx z_ag [.string (mkS s)]] (fun _ Fs=>lnEnd (lnL s) J Jx Fs):=by
 have g:=z_k9 w (Un [f0,bkF bx z_ag [.string (mkS s)]]) [bx]
 have hs0:Sat (z_eK w (Un [f0,bkF bx z_ag [.string (mkS s)]]) [bx]) (Va.of fun _=>bx) 1 [] (f0::R::[bkF bx z_ag [.string (mkS s)],mlF]) w:=by
  refine hm.sat rfl (fun f hf ho k hk=>?_) ⟨Nat.le_refl 1,fun i hi=>by obtain rfl:i=0:=Nat.lt_one_iff.1 hi;rfl⟩
  simp only [List.mem_cons,List.not_mem_nil,or_false] at hf
  rcases hf with rfl | rfl | rfl | rfl
  ·exact ⟨_,by simp,hk⟩
  ·rw [hRo] at ho;cases ho
  ·exact ⟨bkF bx z_ag [.string (mkS s)],by simp,hk⟩
  ·cases ho
 have hs1:=hs0.toBk 2 rfl 0 Nat.zero_lt_one rfl
 refine z_ac (cx:=z_eK w (Un [f0,bkF bx z_ag [.string (mkS s)]]) [bx]) g z_n5 rfl rfl (β:=Va.of fun _=>bx) [.c (.v (.func (.yield l) #[] #[])),.c (.p 0 0)] 1 _ _ rfl rfl hs1 ?_
 refine z_ai (ι:=List (List UInt8)×Fact×List UInt8) 1 (fun i=>[(0,.c (.v (.func (.yield l) #[] #[]))),(1,.c (.p 0 0)),(3,.c (.v (.int .i64 ((i.1.length+1:Nat):Int))))]) (fun i=>[⟨0,z_ag,[.v (.string (mkS i.2.2))]⟩]) (fun i=>[i.2.1,R,mlF])
  (fun i=>J i.1 i.2.1/\lnL s=i.1++lnL i.2.2/\i.1.length+i.2.2.length<=s.length) (fun i=>i.2.2.length) ([],f0,s) ⟨hJ0,rfl,by simp⟩ (Ent.mk' ⟨rfl,rfl,rfl,trivial⟩ rfl (fun β w' hs=>hs)) g ?_
 rintro ⟨pre,f,t⟩ ⟨hJ,hpre,hi⟩
 simp only at hJ hpre hi
 have hfo:=hJo _ _ hJ
 simp only
 refine BIf.not (BIf.dec (fun h0=>?_) (fun h0=>?_))
 ·obtain rfl:t=[]:=mkS1 h0
  intro β w' hs
  exact (hs.keepB (List.nil_sublist _)).fin [0] ⟨f,[],rfl,.inl ⟨pre,hJ,by rw [hpre,z_tz,List.append_nil],rfl⟩⟩ rfl rfl rfl ⟨hfo,trivial⟩
 have ht:t≠[]:=fun e=>h0 (by rw [e];rfl)
 have hst:=z_q4 ht
 have hlt:=z_uG (d:=10) ht
 refine z_ae (v:= .tuple #[.string (mkS (hdA 10 t)),.string (mkS (hdB 10 t)),.bool (decide ((10:UInt8)∈t))]) (fun β w' hs'=>z_uB w' t 10 (by omega) (hs'.get 2 rfl)) ?_
 have hx:(lnL s)[pre.length]?=some (hdA 10 t):=by rw [hpre,hst];simp
 refine z_bC (X:=noF) (x:=hdA 10 t) hY 0 1 rfl hJ hfo rfl hRo (by decide) (fun β=>⟨rfl,rfl,hx⟩) rfl (fun β w _=>⟨trivial,fun k hk=>hk.elim,fun k _ h=>h.elim⟩) ?_ ?_
 ·intro f2 hfo2 hJ2
  refine ⟨(((pre.length+1+1):Nat):Int),by rw [wrap_i64 (by omega) (by omega)];rfl,?_⟩
  have e:(pre++[hdA 10 t]).length=pre.length+1:=by rw [List.length_append];rfl
  refine ⟨(pre++[hdA 10 t],f2,hdB 10 t),⟨hJ2,by show lnL s=(pre++[hdA 10 t])++lnL (hdB 10 t);rw [hpre,hst,List.append_assoc];rfl,by show (pre++[hdA 10 t]).length+(hdB 10 t).length<=_;omega⟩,hlt,?_⟩
  simp only [e]
  exact Ent.mk' ⟨rfl,rfl,rfl,trivial⟩ rfl (fun β w' hs=>hs)
 ·intro f2 hfo2 hJ2
  intro β w' hs
  exact (hs.keepB (List.nil_sublist _)).fin [0] ⟨f2,_,rfl,.inr ⟨_,hJ2,rfl⟩⟩ rfl rfl rfl ⟨hfo2,trivial⟩
theorem z_m9 (w:World) (t:ByteArray):Con Tryz.prog z_lW #[.string t] w [] (fun v Fs=> ∃bx,v= .func (.func z_fp) #[] #[.pointer (some ⟨bx,0,none⟩)]/\Fs=[bkF bx z_ag [.string t]]):=by
 refine z_ac (cx:=z_ky w (Un [])) (z_nH w (Un [])) z_pR rfl rfl (β:=Va.z) [.c (.v (.string t))] 0 [] [] rfl rfl (Sat.start rfl) ?_
 intro β w' hs
 exact hs.ofBk.fin [0] ⟨β 0,rfl,rfl⟩
theorem z_od (s:List UInt8) (d:UInt8):Lib.indexB (mkS s) (mkS [d])=if d∈s then ((hdA d s).length:Int) else -1:=by
 rw [<-z_qP]
 show Lib.index (mkS s).data.toList (mkS [d]).data.toList=_
 rw [mkSo,mkSo]
theorem z_li (d:UInt8): ∀(n:Nat) (s:List UInt8),s.length<=n->Lib.splitB (mkS [d]) 0 (Lib.countB (mkS s) (mkS [d])) (mkS s)=(splL d s).map mkS
 | n,s,hn=>by
  by_cases h:d∈s
  ·have hi:Lib.indexB (mkS s) (mkS [d])=((hdA d s).length:Nat):=by rw [z_od,if_pos h]
   have hs:=z_ip h
   have hl:s.length=(hdA d s).length+(hdB d s).length+1:=by
    have:=congrArg List.length hs
    simp only [List.length_append,List.length_cons] at this
    omega
   have htd: ∀a b:List UInt8,s=a++d::b->s.take a.length=a/\s.drop (a.length+1)=b:=by
    intro a b e
    subst e
    exact ⟨by simp,by rw [<-List.drop_drop,List.drop_left];rfl⟩
   obtain ⟨t1,t2⟩:=htd _ _ hs
   have e1:(mkS s).extract ((hdA d s).length+(mkS [d]).size) (mkS s).size=mkS (hdB d s):=by
    rw [show (mkS [d]).size=1 from rfl,show (mkS s).size=s.length from rfl,z_eJ s _ _ (Nat.le_refl _),List.take_length,t2]
   have e0:(mkS s).extract 0 ((hdA d s).length+0)=mkS (hdA d s):=by
    rw [Nat.add_zero,z_eJ s _ _ (by omega),List.drop_zero,t1]
   rw [Lib.countB_hit (mkS s) (mkS [d]) _ (Nat.le_refl 1) hi,Nat.add_comm,Lib.splitB_hit _ _ _ _ _ hi,e0,e1]
   cases n with
   | zero=>omega
   | succ n=>
    rw [z_li d n (hdB d s) (by omega)]
    conv=>rhs;rw [hs]
    rw [z_jp _ (z_kv d s)]
    rfl
  ·have hi:Lib.indexB (mkS s) (mkS [d])= -1:=by rw [z_od,if_neg h]
   rw [Lib.splitB_miss _ _ _ _ hi,z_bn h]
   rfl
theorem z_tB (d:UInt8) (s:List UInt8):Lib.countB (mkS s) (mkS [d])+1=(splL d s).length:=by
 have h:=Lib.splitB_all (mkS [d]) (Nat.le_refl 1) 0 _ (mkS s) rfl
 rw [z_li d _ s (Nat.le_refl _),List.length_map] at h
 exact h.symm
theorem z_sS (w:World) (s:List UInt8) (d:UInt8) (hs:s.length<=1000000) (hm:mlF.p w):Con Tryz.prog z_nz #[.string (mkS s),.string (mkS [d])] w [] fun v Fs=> ∃b,v= .slice (some ⟨b,0,none⟩) (splL d s).length (splL d s).length/\Fs=[prowF (some ⟨b,0,none⟩) (splL d s) (splL d s).length]:=by
 obtain ⟨m,hm⟩:=hm
 have hsz:(mkS s).size<4294967281:=by show s.length<_;omega
 refine z_bp (Calls.mono (Tryz.strings_Split (mkS s) (mkS [d]) m w hsz hm (Nat.le_refl 1)) ?_)
 rintro e w' ⟨rfl,rfl⟩
 rw [z_tB,z_li d _ s (Nat.le_refl _),List.map_map]
 have hl:=z_j9 d s
 generalize splL d s=L at hl ⊢
 have hw:(w.alloc (.cells (L.map (Value.string∘mkS)).toArray 9)).heap[w.heap.size]?=some (.cells (L.map (Value.string∘mkS)).toArray 9 (0,0)):=World.alloc_heap_new w _
 refine ⟨_,rfl,[prowF (some ⟨w.heap.size,0,none⟩) L L.length],⟨w.heap.size,rfl,rfl⟩,?_,⟨fun f hf=>?_,fun f hf k hk=>?_,List.pairwise_singleton _ _⟩,⟨rfl,trivial⟩,fun f hf k hk=>?_⟩
 ·rw [Un.nil];exact Chg.alloc w _
 ·obtain rfl:=List.mem_singleton.1 hf
  refine ⟨by simp,.inr ⟨w.heap.size,L.length,_,rfl,Nat.zero_le _,hw,Nat.le_refl _,by rw [maxLen_eq];omega,by simp,?_⟩⟩
  simp only [Nat.mul_one]
  rw [List.take_of_length_le (by rw [List.length_map];exact Nat.le_refl _)]
  rfl
 ·obtain rfl:=List.mem_singleton.1 hf
  obtain rfl:k=w.heap.size:=(Option.some.inj hk).symm
  rw [World.size_alloc];omega
 ·obtain rfl:=List.mem_singleton.1 hf
  exact .inr (Nat.le_of_eq (Option.some.inj hk))
def UsrOut (t l:List UInt8) (v:Value) (Fs:List Fact):Prop:=
 (∃c:Crd,UsrP t l c.a/\v= .tuple #[.agg c.vs.toArray,.bool true]/\Fs=[csF [c]])\/
 ((∀c,¬UsrP t l c)/\(∃x:CrdV,v= .tuple #[.agg x.vs.toArray,.bool false])/\Fs=[])
theorem z_wB {α:Type} {w:List α} (h:w.length=10): ∃a b c d e f g i j k,w=[a,b,c,d,e,f,g,i,j,k]:=by
 match w,h with
 | [a,b,c,d,e,f,g,i,j,k],_=>exact ⟨a,b,c,d,e,f,g,i,j,k,rfl⟩
theorem z_mH {d:UInt8}: ∀ {l:List UInt8},∀x∈splL d l,x.length<=l.length
 | [],x,h=>by
  obtain rfl:x=[]:=by simpa [splL] using h
  exact Nat.le_refl _
 | c::r,x,h=>by
  have ih:=fun x hx=>z_mH (d:=d) (l:=r) x hx
  rw [z_fI] at h
  split at h
  ·rcases List.mem_cons.1 h with rfl | h
   ·exact Nat.zero_le _
   ·have:=ih x h
    rw [List.length_cons]
    omega
  ·cases hq:splL d r with
   | nil=>exact absurd hq (z_hv _ _)
   | cons a t=>
    rw [hq] at h ih
    rcases List.mem_cons.1 h with rfl | h
    ·have:=ih a List.mem_cons_self
     simp only [List.length_append,List.length_cons,List.length_nil]
     omega
    ·have:=ih x (List.mem_cons_of_mem _ h)
     rw [List.length_cons]
     omega
structure D8 where
 A:Option Addr
 x:List UInt8
 c:Nat
 b:Bool
set_option maxHeartbeats 2000000 in
theorem z_yb (w:World) (t l:List UInt8) (hl:l.length<=400000) (hm:Mem w [mlF,errF 5,errF 6,powF]):Con Tryz.prog z_mz #[.string (mkS t),.string (mkS l)] w [] (UsrOut t l):=by
 have g:=z_nV w (Un [])
 refine z_lp (cx:=z_hY w (Un [])) g z_qT [.c (.v (.string (mkS t))),.c (.v (.string (mkS l)))] [mlF,errF 5,errF 6,powF] hm ?_
 refine z_ao g ?_
 refine z_ao g ?_
 refine z_aa [] (fun β w' hs=>z_sS w' l 32 (by omega) (hs.get 0 rfl)) ?_
 rintro v Fs ⟨b,rfl,rfl⟩
 obtain ⟨W,hW⟩: ∃W,splL 32 l=W:=⟨_,rfl⟩
 have hU: ∀c,UsrP t l c->Par nP (mkS t) W c/\W.getD 0 []=userW/\(W.getD 3 []=onW\/W.getD 3 []=offW):=fun c h=>by rw [<-hW];exact h
 have hle: ∀x∈W,x.length<=400000:=fun x hx=>by
  rw [<-hW] at hx
  exact Nat.le_trans (z_mH x hx) hl
 rw [hW]
 refine z_ao g ?_
 refine BIf.not (BIf.dec (fun h10=>?_) (fun h10=>?_))
 rotate_left
 ·have h100: ¬(W.length:Int)=10:=h10
  intro β w' hs
  exact (hs.keepB (List.nil_sublist _)).fin [] (.inr ⟨fun c h=>h100 (by rw [(hU c h).1.n];rfl),⟨⟨ByteArray.empty,ByteArray.empty,⟨none,0,0,0,none,0,0,none,0,0,none,0,0⟩,0,none,0,0,false⟩,rfl⟩,rfl⟩)
 have h100:(W.length:Int)=10:=h10
 obtain ⟨w0,w1,w2,w3,w4,w5,w6,w7,w8,w9,rfl⟩:=z_wB (show W.length=10 by omega)
 refine ⟨_,0,rfl,rfl,by show 0<10;decide,?_⟩
 refine ⟨.string (mkS w0),fun β w' hs=>Rd.cell1 (z_an (hs.get 0 rfl)) rfl,?_⟩
 refine BIf.not (BIf.dec (fun h0=>?_) (fun h0=>?_))
 rotate_left
 ·have h00: ¬mkS w0=mkS userW:=h0
  intro β w' hs
  exact (hs.keepB (List.nil_sublist _)).fin [] (.inr ⟨fun c h=>h00 (congrArg mkS (hU c h).2.1),⟨⟨ByteArray.empty,ByteArray.empty,⟨none,0,0,0,none,0,0,none,0,0,none,0,0⟩,0,none,0,0,false⟩,rfl⟩,rfl⟩)
 have h00:w0=userW:=mkS1 h0
 refine z_ao g ?_
 refine ⟨_,1,rfl,rfl,by show 1<10;decide,?_⟩
 refine ⟨.string (mkS w1),fun β w' hs=>Rd.cell1 (z_an (hs.get 0 rfl)) rfl,?_⟩
 refine z_aa [] (fun β w' hs=>z_qr w' w1 (Nat.le_trans (hle w1 (by simp)) (by decide))) ?_
 rintro v Fs ⟨A1,nm,c1,e,rfl,hnm,hc1,rfl⟩
 refine z_ao g ?_
 refine ⟨_,2,rfl,rfl,by show 2<10;decide,?_⟩
 refine ⟨.string (mkS w2),fun β w' hs=>Rd.cell1 (z_an (hs.get 1 rfl)) rfl,?_⟩
 refine z_aa [] (fun β w' hs=>z_nv w' (mkS w2) powF rfl (Nat.le_trans (hle w2 (by simp)) (by decide)) (fun w u h1 h2=>z_d9 w u h2 (z_gM h1)) (hs.mem.take (js:=[3,4,5]) rfl)) ?_
 rintro v Fs ⟨⟨gn,ob,rfl,hgn⟩,rfl⟩
 refine z_ao g ?_
 refine ⟨_,4,rfl,rfl,by show 4<10;decide,?_⟩
 refine ⟨.string (mkS w4),fun β w' hs=>Rd.cell1 (z_an (hs.get 1 rfl)) rfl,?_⟩
 refine z_aa [] (fun β w' hs=>z_nv w' (mkS w4) powF rfl (Nat.le_trans (hle w4 (by simp)) (by decide)) (fun w u h1 h2=>z_d9 w u h2 (z_gM h1)) (hs.mem.take (js:=[3,4,5]) rfl)) ?_
 rintro v Fs ⟨⟨rn,ib,rfl,hrn⟩,rfl⟩
 obtain ⟨Gd,hGd⟩: ∃P:Prop,P=(e=0/\ob=true/\ib=true/\rn<=64/\(w3=onW\/w3=offW)):=⟨_,rfl⟩
 refine z_ce (ι:=Bool) g (fun G=>G=true↔Gd) 1 (fun G=>[(0,.c (.v (.string (mkS t)))),(4,.c (.p 0 0)),(5,.c (.v (.bool false))),(6,.c (.v (.slice (some ⟨b,0,none⟩) 10 10))),(7,.c (.v (.slice A1 nm.length c1))),(9,.c (.v (.int .u64 (gn:Int)))),(11,.c (.v (.int .u64 (rn:Int)))),(13,.c (.v (.bool G)))])
  (fun _=>[⟨0,z_ak,ti100.zero.map SL.v⟩]) (fun _=>[browF z_ab A1 nm c1,prowF (some ⟨b,0,none⟩) [w0,w1,w2,w3,w4,w5,w6,w7,w8,w9] 10,mlF,errF 5,errF 6,powF]) ?_ ?_
 rotate_left
 ·have no: ¬Gd->(false=true↔Gd):=fun h=>⟨fun q=>(by cases q),fun q=>absurd q h⟩
  have ent: ∀ {P:Prop},P->P:=fun h=>h
  refine BIf.dec (fun he=>?_) (fun he=>?_)
  rotate_left
  ·have he0: ¬e=0:=he
   exact EntX.of false (no fun q=>he0 (by rw [hGd] at q;exact q.1)) (Ent.mk' ⟨rfl,rfl,rfl,rfl,rfl,rfl,rfl,rfl,trivial⟩ rfl (fun β w' hs=>hs))
  have he0:e=0:=he
  cases ob with
  | false=>exact EntX.of false (no fun q=>by rw [hGd] at q;cases q.2.1) (Ent.mk' ⟨rfl,rfl,rfl,rfl,rfl,rfl,rfl,rfl,trivial⟩ rfl (fun β w' hs=>hs))
  | true=>
  cases ib with
  | false=>exact EntX.of false (no fun q=>by rw [hGd] at q;cases q.2.2.1) (Ent.mk' ⟨rfl,rfl,rfl,rfl,rfl,rfl,rfl,rfl,trivial⟩ rfl (fun β w' hs=>hs))
  | true=>
  refine BIf.dec (fun hr=>?_) (fun hr=>?_)
  rotate_left
  ·have hr0: ¬(rn:Int)<=64:=hr
   exact EntX.of false (no fun q=>by rw [hGd] at q;have:=q.2.2.2.1;omega) (Ent.mk' ⟨rfl,rfl,rfl,rfl,rfl,rfl,rfl,rfl,trivial⟩ rfl (fun β w' hs=>hs))
  have hr0:(rn:Int)<=64:=hr
  refine ⟨_,3,rfl,rfl,by show 3<10;decide,?_⟩
  refine ⟨.string (mkS w3),fun β w' hs=>Rd.cell1 (z_an (hs.get 1 rfl)) rfl,?_⟩
  refine BIf.dec (fun h3=>?_) (fun h3=>?_)
  ·have h30:w3=onW:=mkS1 h3
   exact EntX.of true ⟨fun _=>by rw [hGd];exact ⟨he0,rfl,rfl,by omega,.inl h30⟩,fun _=>rfl⟩ (Ent.mk' ⟨rfl,rfl,rfl,rfl,rfl,rfl,rfl,rfl,trivial⟩ rfl (fun β w' hs=>hs))
  have h30: ¬mkS w3=mkS onW:=h3
  refine ⟨_,3,rfl,rfl,by show 3<10;decide,?_⟩
  refine ⟨.string (mkS w3),fun β w' hs=>Rd.cell1 (z_an (hs.get 1 rfl)) rfl,?_⟩
  refine EntX.of (decide (mkS w3=mkS offW)) ⟨fun q=>?_,fun q=>?_⟩ (Ent.mk' ⟨rfl,rfl,rfl,rfl,rfl,rfl,rfl,rfl,trivial⟩ rfl (fun β w' hs=>hs))
  ·rw [hGd]
   exact ⟨he0,rfl,rfl,by omega,.inr (mkS1 (of_decide_eq_true q))⟩
  ·rw [hGd] at q
   rcases q.2.2.2.2 with k | k
   ·exact absurd (congrArg mkS k) h30
   ·exact decide_eq_true (congrArg mkS k)
 intro G hG
 refine z_ao g ?_
 have hcell: ∀ {β:Va} {n:Nat} {H:List Bk} {w':World},Sat (z_hY w (Un [])) β n H [browF z_ab A1 nm c1,prowF (some ⟨b,0,none⟩) [w0,w1,w2,w3,w4,w5,w6,w7,w8,w9] 10] w'->Rd 1 (some ⟨b,0,none⟩) 10 ([w0,w1,w2,w3,w4,w5,w6,w7,w8,w9].map fun x=>Value.string (mkS x)) w':=fun hs=>z_an (hs.get 1 rfl)
 refine z_aj g z_o6 (by kernel_rfl) [⟨0,z_ak,ti100.zero.map SL.v⟩] [browF z_ab A1 nm c1,prowF (some ⟨b,0,none⟩) [w0,w1,w2,w3,w4,w5,w6,w7,w8,w9] 10] (subPerm [0,1]) ?_
 refine ⟨_,fun β w' hs=>z_an (hs.get 0 rfl),?_⟩
 refine ⟨_,3,rfl,rfl,by omega,?_⟩
 refine ⟨.string (mkS w3),fun β w' hs=>Rd.cell1 (hcell hs) rfl,?_⟩
 refine ⟨Sub.of (List.sublist_cons_self _ _) (((List.nil_sublist _).cons_cons _).cons_cons _),?_⟩
 refine ⟨Sub.of (List.sublist_cons_self _ _) (((List.nil_sublist _).cons_cons _).cons_cons _),?_⟩
 obtain ⟨ri,hri⟩: ∃ri,IntKind.i64.wrap (rn:Int)=ri:=⟨_,rfl⟩
 refine z_ao g ?_
 refine ⟨ri,hri,?_⟩
 refine z_ao g ?_
 refine ⟨_,5,rfl,rfl,by omega,?_⟩
 refine ⟨.string (mkS w5),fun β w' hs=>Rd.cell1 (z_an (hs.get 1 rfl)) rfl,?_⟩
 refine z_aa [] (fun β w' hs=>z_j8 w' w5 G (Nat.le_trans (hle w5 (by simp)) (by decide))) ?_
 rintro v Fs ⟨A5,x5,c5,b5,rfl,hc5,h5,rfl⟩
 refine z_ao g ?_
 refine ⟨_,6,rfl,rfl,by omega,?_⟩
 refine ⟨.string (mkS w6),fun β w' hs=>Rd.cell1 (z_an (hs.get 2 rfl)) rfl,?_⟩
 refine z_aa [] (fun β w' hs=>z_j8 w' w6 b5 (Nat.le_trans (hle w6 (by simp)) (by decide))) ?_
 rintro v Fs ⟨A6,x6,c6,b6,rfl,hc6,h6,rfl⟩
 refine z_ao g ?_
 refine ⟨_,7,rfl,rfl,by omega,?_⟩
 refine ⟨.string (mkS w7),fun β w' hs=>Rd.cell1 (z_an (hs.get 3 rfl)) rfl,?_⟩
 refine z_aa [] (fun β w' hs=>z_j8 w' w7 b6 (Nat.le_trans (hle w7 (by simp)) (by decide))) ?_
 rintro v Fs ⟨A7,x7,c7,b7,rfl,hc7,h7,rfl⟩
 refine z_ce (ι:=D8) g (fun i=>i.x.length<=i.c/\((i.b=true/\b7=true/\decP w8=some i.x)\/(i.b=false/\(b7=false\/decP w8=none)))) 2 (fun i=>[(4,.c (.p 0 0)),(5,.c (.v (.bool false))),(6,.c (.v (.slice (some ⟨b,0,none⟩) 10 10))),(13,.c (.v (.bool i.b))),(14,.c (.p 1 0))])
  (fun i=>[⟨1,z_ak,CrdV.ss ⟨mkS t,mkS nm,⟨A5,x5.length,c5,ri,A6,x6.length,c6,A7,x7.length,c7,i.A,i.x.length,i.c⟩,gn,none,0,0,decide (mkS w3=mkS offW)⟩⟩,⟨0,z_ak,ti100.zero.map SL.v⟩]) (fun i=>[browF z_ab i.A i.x i.c,browF z_ab A7 x7 c7,browF z_ab A6 x6 c6,browF z_ab A5 x5 c5,prowF (some ⟨b,0,none⟩) [w0,w1,w2,w3,w4,w5,w6,w7,w8,w9] 10,mlF]) ?_ ?_
 rotate_left
 ·refine ⟨_,8,rfl,rfl,by omega,?_⟩
  refine ⟨.string (mkS w8),fun β w' hs=>Rd.cell1 (z_an (hs.get 4 rfl)) rfl,?_⟩
  refine z_aa [] (fun β w' hs=>z_j8 w' w8 b7 (Nat.le_trans (hle w8 (by simp)) (by decide))) ?_
  rintro v Fs ⟨A8,x8,c8,b8,rfl,hc8,h8,rfl⟩
  exact EntX.of ⟨A8,x8,c8,b8⟩ ⟨hc8,h8⟩ (Ent.mk' ⟨rfl,rfl,rfl,rfl,rfl,trivial⟩ rfl (fun β w' hs=>Eq.mp (by kernel_rfl) (hs.perm [0,1,2,3,5,6])))
 rintro ⟨A8,x8,c8,b8⟩ ⟨hc8,h8⟩
 simp only at hc8 h8
 have hgo:b8=true->Gd/\decP w5=some x5/\decP w6=some x6/\decP w7=some x7/\decP w8=some x8:=by
  intro hb
  rcases h8 with ⟨_,q7,q8⟩ | ⟨q,_⟩
  ·rcases h7 with ⟨_,q6,k7⟩ | ⟨q,_⟩
   ·rcases h6 with ⟨_,q5,k6⟩ | ⟨q,_⟩
    ·rcases h5 with ⟨_,q4,k5⟩ | ⟨q,_⟩
     ·exact ⟨hG.1 q4,k5,k6,k7,q8⟩
     ·rw [q5] at q;cases q
    ·rw [q6] at q;cases q
   ·rw [q7] at q;cases q
  ·rw [hb] at q;cases q
 have hno:b8=false-> ∀c,¬UsrP t l c:=by
  intro hb c hc
  obtain ⟨hp,_,k3⟩:=hU c hc
  have e5:decP w5=some c.sec.salt:=hp.a
  have e6:decP w6=some c.sec.stored:=hp.b
  have e7:decP w7=some c.sec.server:=hp.s
  have e8:decP w8=some c.sec.ha1:=hp.h
  obtain ⟨r,i1,i2,_⟩:=hp.i
  have i1':numOk (mkS w4) r:=i1
  have hgd:Gd:=by
   rw [hGd]
   refine ⟨?_,?_,?_,?_,k3⟩
   ·rcases hnm with ⟨q,_⟩ | ⟨_,q⟩
    ·exact q
    ·have:=hp.u
     rw [show unhexA w1=some _ from this] at q
     cases q
   ·rcases hgn with ⟨q,_⟩ | ⟨_,q⟩
    ·exact q
    ·exact absurd hp.g (q _)
   ·rcases hrn with ⟨q,_⟩ | ⟨_,q⟩
    ·exact q
    ·exact absurd i1' (q _)
   ·rcases hrn with ⟨_,q⟩ | ⟨_,q⟩
    ·have:=z_pP _ _ _ q i1'
     omega
    ·exact absurd i1' (q _)
  have t4:G=true:=hG.2 hgd
  have t5:b5=true:=by
   rcases h5 with ⟨q,_⟩ | ⟨_,q | q⟩
   ·exact q
   ·rw [t4] at q;cases q
   ·rw [e5] at q;cases q
  have t6:b6=true:=by
   rcases h6 with ⟨q,_⟩ | ⟨_,q | q⟩
   ·exact q
   ·rw [t5] at q;cases q
   ·rw [e6] at q;cases q
  have t7:b7=true:=by
   rcases h7 with ⟨q,_⟩ | ⟨_,q | q⟩
   ·exact q
   ·rw [t6] at q;cases q
   ·rw [e7] at q;cases q
  rcases h8 with ⟨q,_⟩ | ⟨_,q | q⟩
  ·rw [hb] at q;cases q
  ·rw [t7] at q;cases q
  ·rw [e8] at q;cases q
 have hyes:b8=true-> ∀rA rc roles,roles=rolS w9->UsrP t l (Crd.a ⟨0,mkS t,mkS nm,⟨⟨A5,c5,x5,hc5⟩,ri,⟨A6,c6,x6,hc6⟩,⟨A7,c7,x7,hc7⟩,⟨A8,c8,x8,hc8⟩⟩,gn,rA,rc,roles,decide (mkS w3=mkS offW)⟩):=by
  intro hb rA rc roles hr
  obtain ⟨gd,k5,k6,k7,k8⟩:=hgo hb
  rw [hGd] at gd
  obtain ⟨g1,g2,g3,g4,g5⟩:=gd
  unfold UsrP
  rw [hW]
  refine ⟨⟨rfl,rfl,?_,?_,⟨rn,?_,g4,?_⟩,k5,k6,k7,k8,hr,?_⟩,h00,g5⟩
  ·rcases hnm with ⟨_,q⟩ | ⟨q,_⟩
   ·show unhexA w1=some (mkS nm).data.toList
    rw [mkSo]
    exact q
   ·exact absurd g1 q
  ·rcases hgn with ⟨_,q⟩ | ⟨q,_⟩
   ·exact q
   ·rw [g2] at q;cases q
  ·rcases hrn with ⟨_,q⟩ | ⟨q,_⟩
   ·exact q
   ·rw [g3] at q;cases q
  ·show ri=(rn:Int)
   rw [<-hri,wrap_i64 (by omega) (by omega)]
  ·show decide (mkS w3=mkS offW)=decide (w3=offW)
   exact decide_eq_decide.2 ⟨fun q=>mkS1 q,fun q=>congrArg mkS q⟩
 refine z_ao g ?_
 refine ⟨_,9,rfl,rfl,by omega,?_⟩
 refine ⟨.string (mkS w9),fun β w' hs=>Rd.cell1 (z_an (hs.get 4 rfl)) rfl,?_⟩
 refine BIf.not (BIf.dec (fun h9=>?_) (fun h9=>?_))
 ·have h90:w9=[45]:=mkS1 h9
  refine z_ao g ?_
  refine z_eT g ?_
  intro β w' hs
  cases b8 with
  | false=>exact (hs.keepB (List.nil_sublist _)).fin [] (.inr ⟨hno rfl,⟨⟨mkS t,mkS nm,⟨A5,x5.length,c5,ri,A6,x6.length,c6,A7,x7.length,c7,A8,x8.length,c8⟩,gn,none,0,0,decide (mkS w3=mkS offW)⟩,rfl⟩,rfl⟩)
  | true=>
   have hs2:=((hs.keepB (List.nil_sublist _)).nilRow z_ag 1).bsCs (c:=⟨0,mkS t,mkS nm,⟨⟨A5,c5,x5,hc5⟩,ri,⟨A6,c6,x6,hc6⟩,⟨A7,c7,x7,hc7⟩,⟨A8,c8,x8,hc8⟩⟩,gn,none,0,[],decide (mkS w3=mkS offW)⟩) [0,1,2,3,4] rfl
   exact hs2.fin [0] (.inl ⟨_,hyes rfl none 0 [] (by rw [h90];rfl),rfl,rfl⟩)
 have h90: ¬w9=[45]:=fun e=>h9 (congrArg mkS e)
 refine ⟨_,9,rfl,rfl,by omega,?_⟩
 refine ⟨.string (mkS w9),fun β w' hs=>Rd.cell1 (z_an (hs.get 4 rfl)) rfl,?_⟩
 refine z_aa [] (fun β w' hs=>z_sS w' w9 44 (Nat.le_trans (hle w9 (by simp)) (by decide)) (hs.get 5 rfl)) ?_
 rintro v Fs ⟨b9,rfl,rfl⟩
 obtain ⟨L9,hL9⟩: ∃L9:List ByteArray,(splL 44 w9).map mkS=L9:=⟨_,rfl⟩
 have e9:prowF (some ⟨b9,0,none⟩) (splL 44 w9) (splL 44 w9).length=srowF (some ⟨b9,0,none⟩) L9 L9.length:=by
  show rowF z_ag 1 (.slice _ (splL 44 w9).length _) _ _=rowF z_ag 1 (.slice _ L9.length _) _ _
  rw [<-hL9,List.length_map]
  unfold strs
  rw [List.map_map]
  rfl
 have e10:(splL 44 w9).length=L9.length:=by rw [<-hL9,List.length_map]
 rw [e9,e10]
 have hr9:L9=rolS w9:=by unfold rolS;rw [if_neg h90,hL9]
 refine z_ao g ?_
 refine z_eT g ?_
 intro β w' hs
 cases b8 with
 | false=>exact (hs.keepB (List.nil_sublist _)).fin [] (.inr ⟨hno rfl,⟨⟨mkS t,mkS nm,⟨A5,x5.length,c5,ri,A6,x6.length,c6,A7,x7.length,c7,A8,x8.length,c8⟩,gn,some ⟨b9,0,none⟩,L9.length,L9.length,decide (mkS w3=mkS offW)⟩,rfl⟩,rfl⟩)
 | true=>
  have hs2:=(hs.keepB (List.nil_sublist _)).bsCs (c:=⟨0,mkS t,mkS nm,⟨⟨A5,c5,x5,hc5⟩,ri,⟨A6,c6,x6,hc6⟩,⟨A7,c7,x7,hc7⟩,⟨A8,c8,x8,hc8⟩⟩,gn,some ⟨b9,0,none⟩,L9.length,L9,decide (mkS w3=mkS offW)⟩) [0,1,2,3,4] rfl
  exact hs2.fin [0] (.inl ⟨_,hyes rfl (some ⟨b9,0,none⟩) L9.length L9 hr9,rfl,rfl⟩)
theorem z_tI: ∀(n:Nat) (vs:List Nat) (l:List UInt8),vs.length<=n->decG vs=some l->l.length<=vs.length
 | n,vs,l,hn,h=>by
  match vs,h with
  | a::b::c::d::r,h=>
   unfold decG at h
   cases hq:decG r with
   | none=>rw [hq] at h;cases h
   | some k=>
    rw [hq] at h
    obtain rfl:=Option.some.inj h
    cases n with
    | zero=>simp at hn
    | succ n=>
     have:=z_tI n r k (by simp only [List.length_cons] at hn;omega) hq
     simp only [List.length_cons]
     omega
  | [a,b,c],h=>
   unfold decG at h
   split at h
   ·obtain rfl:=Option.some.inj h;simp
   ·cases h
  | [a,b],h=>
   unfold decG at h
   split at h
   ·obtain rfl:=Option.some.inj h;simp
   ·cases h
  | [],h=>
   obtain rfl:=Option.some.inj h
   exact Nat.le_refl _
theorem z_vJ (s:List UInt8):(unpad s).length<=s.length:=by
 unfold unpad
 split
 ·split
  ·simp only [List.length_dropLast];omega
  ·simp only [List.length_dropLast];omega
 ·exact Nat.le_refl _
theorem z_oQ {s l:List UInt8} (h:decP s=some l):l.length<=s.length:=by
 unfold decP at h
 split at h
 ·cases h
 ·split at h
  ·cases h
  ·unfold decS at h
   cases hq:valsA false (unpad s) with
   | none=>rw [hq] at h;cases h
   | some vs=>
    rw [hq] at h
    have h1:=z_tI _ vs l (Nat.le_refl _) h
    have h2:=(z_eD hq).1
    have h3:=z_vJ s
    omega
theorem z_pE: ∀(s l:List UInt8),unhexA s=some l->l.length<=s.length
 | [],l,h=>by
  obtain rfl:=Option.some.inj h
  exact Nat.le_refl _
 | [a],l,h=>by cases h
 | a::b::r,l,h=>by
  unfold unhexA at h
  split at h
  ·rename_i x y k _ _ hk
   obtain rfl:=Option.some.inj h
   have:=z_pE r k hk
   simp only [List.length_cons]
   omega
  ·cases h
theorem z_xu {W:List (List UInt8)} {k:Nat} (h:k<W.length):W.getD k []∈W:=by
 rw [List.getD_eq_getElem?_getD,List.getElem?_eq_getElem h]
 exact List.getElem_mem h
theorem z_xW {s:List UInt8}:(rolS s).length<=s.length+1/\ ∀r∈rolS s,r.size<=s.length:=by
 unfold rolS
 split
 ·exact ⟨Nat.zero_le _,fun r h=>by cases h⟩
 ·refine ⟨by rw [List.length_map];exact z_j9 44 s,fun r hr=>?_⟩
  obtain ⟨x,hx,rfl⟩:=List.mem_map.1 hr
  exact z_mH x hx
structure CrSz (c:ACrd):Prop where
 u:c.user.size<=100000
 r: ∀r∈c.roles,r.size<=100000
 n:c.roles.length<=100000
 z:CSz c
theorem Par.sz {num:List UInt8->Nat->Prop} {t:ByteArray} {l:List UInt8} {c:ACrd} (h:Par num t (splL 32 l) c) (hl:l.length<=99999):CrSz c:=by
 have hw: ∀k,k<10->((splL 32 l).getD k []).length<=99999:=fun k hk=>Nat.le_trans (z_mH _ (z_xu (by rw [h.n];exact hk))) hl
 have h1:=z_pE _ _ h.u
 have q1:=hw 1 (by decide)
 have q5:=hw 5 (by decide)
 have q6:=hw 6 (by decide)
 have q7:=hw 7 (by decide)
 have q8:=hw 8 (by decide)
 have q9:=hw 9 (by decide)
 have e5:=z_oQ h.a
 have e6:=z_oQ h.b
 have e7:=z_oQ h.s
 have e8:=z_oQ h.h
 obtain ⟨r1,r2⟩:=z_xW (s:=(splL 32 l).getD 9 [])
 refine ⟨?_,?_,?_,⟨⟨by omega,by omega,by omega,by omega⟩,?_⟩⟩
 ·show c.user.data.toList.length<=_
  omega
 ·rw [h.r]
  intro r hr
  have:=r2 r hr
  omega
 ·rw [h.r];omega
 ·rw [h.r];omega
theorem z_wL {s x:List UInt8} (h:x∈lnL s):x.length<=s.length:=by
 unfold lnL at h
 split at h
 ·exact z_mH x ((List.dropLast_sublist _).subset h)
 ·exact z_mH x h
theorem z_tw (d:UInt8): ∀s:List UInt8,(hdB d s).length<=s.length
 | []=>Nat.le_refl _
 | c::r=>by
  have:=z_tw d r
  rw [z_mw]
  split
  ·simp only [List.length_cons];omega
  ·simp only [List.length_cons];omega
structure FI where
 S:Sto
 f:FS
structure FIok (S:Sto) (body:List UInt8) (pre:List (List UInt8)) (i:FI):Prop where
 run:Run StepP 0 pre ⟨S.a,[],false⟩ i.f
 a:i.S.a=i.f.X
 b:i.S.b=S.b
 t:i.f.t.length<=32
 pre:pre=(lnL body).take pre.length
def FillOut (S:Sto) (body:List UInt8) (v:Value) (Fs:List Fact):Prop:=
 (v= .bool true/\ ∃S' x,Run StepP 0 (lnL body) ⟨S.a,[],false⟩ x/\S'.a=x.X/\S'.b=S.b/\Fs=[stoF S'])\/
 (v= .bool false/\(∀x,¬Run StepP 0 (lnL body) ⟨S.a,[],false⟩ x)/\ ∃S',Fs=[stoF S'])
abbrev numFs:List Fact:=[mlF,errF 5,errF 6,powF,namF]
set_option maxHeartbeats 2000000 in
theorem z_yv (w:World) (S:Sto) (body:List UInt8) (hb:body.length<=99999) (hm:Mem w (stoF S::numFs)):Con Tryz.prog z_ju #[ptr S.b,.string (mkS body)] w [stoF S] (FillOut S body):=by
 have g:=z_jg w (Un [stoF S])
 refine z_eM (cx:=z_il w (Un [stoF S])) g z_mD [.c (.v (ptr S.b)),.c (.v (.string (mkS body)))] numFs hm ?_
 refine z_aa [] (fun β w' hs=>z_m9 w' (mkS body)) ?_
 rintro v Fs ⟨bx,rfl,rfl⟩
 refine z_aG (α:=List UInt8) (ι:=FI) (κ:=FI) g rfl (cv:=[.pointer (some ⟨bx,0,none⟩)]) rfl (by kernel_rfl) 4 (Nat.le_refl 4) (fun pre i=>FIok S body pre i) (fun i=>[⟨3,4,[.v (.bool i.f.s)]⟩,⟨2,9,[.v (.string (mkS i.f.t))]⟩,⟨1,4,[.v (.bool false)]⟩,⟨0,25,[.v (ptr S.b)]⟩]) (fun i=>[stoF i.S]) (fun _=>⟨rfl,trivial⟩)
  (fun e pre j=>e= .ret/\ ∀x,¬Run StepP 0 (lnL body) ⟨S.a,[],false⟩ x) (fun i=>[⟨1,4,[.v (.bool false)]⟩]) (fun i=>[stoF i.S]) (fun _=>⟨rfl,trivial⟩) [bkF bx z_ag [.string (mkS body)]] [mlF] numFs ⟨rfl,trivial⟩ (fun g h=>by
   simp only [List.mem_cons,List.not_mem_nil,or_false] at h
   rcases h with rfl | rfl | rfl | rfl | rfl<;>rfl) ⟨S,⟨S.a,[],false⟩⟩ ⟨rfl,rfl,rfl,Nat.zero_le _,rfl⟩ (fun β w hs=>⟨β,Agr.refl _ _,?_⟩) (insLn (lnL body)) (fun xs Fs'=>xs=lnL body/\Fs'=[]) (fun pre Fs'=>Fs'=[]) (fun l w f0 R J Jx h1 h2 h3 h4 h5=>(z_rm l w bx body (by omega) f0 R J Jx h1 h2 h3 h4 h5).mono fun _ _ h=>h) ?_ ?_ ?_
 ·exact (hs.sub 2 rfl rfl mlF rfl (hs.get 2 rfl) (fun _ h=>h)).perm [1,0,2,3,4,5,6,7]
 ·rintro ⟨S1,⟨X1,t1,s1⟩⟩ pre x args X W S0 l0 bs pn pn' hbs ⟨hrun,ha,hib,ht,hpre⟩ ⟨rfl,rfl,hx⟩
  simp only at hrun ha hib ht hpre
  have hL:=z_pa hpre hx
  refine ⟨_,rfl,?_⟩
  have hxl:x.length<=99999:=Nat.le_trans (z_wL (List.mem_of_getElem? hx)) hb
  have hstop:(∀m,¬StepP pre.length x ⟨X1,t1,s1⟩ m)-> ∀y,¬Run StepP 0 (lnL body) ⟨S.a,[],false⟩ y:=fun hn y=>by
   rw [hL]
   exact Run.no StepP.one hrun hn y
  have hgo: ∀m:FS,StepP pre.length x ⟨X1,t1,s1⟩ m->m.t.length<=32-> ∀S2:Sto,S2.a=m.X->S2.b=S.b->FIok S body (pre++[x]) ⟨S2,m⟩:=fun m hs2 h32 S2 e1 e2=>⟨hrun.snoc hs2,e1,e2,h32,z_oK hpre hx⟩
  refine z_ae (v:= .tuple #[.string (mkS (hdA 32 x)),.string (mkS (hdB 32 x)),.bool (decide (32∈x))]) (fun β w' hs=>z_uB w' x 32 (by omega) (hs.get 2 rfl)) ?_
  refine BIf.dec (fun h1=>?_) (fun h1=>?_)
  ·have h10:((pre.length+1:Nat):Int)=1:=h1
   have hp0:pre.length=0:=by omega
   refine z_aa [] (fun β w' hs=>z_nv w' (mkS (hdB 32 x)) powF rfl (by have:=z_tw 32 x;show (hdB 32 x).length<=_;omega) (fun w u h1 h2=>z_d9 w u h2 (z_gM h1)) (hs.mem.take (js:=[3,4,5]) rfl)) ?_
   rintro v Fs ⟨⟨n,nb,rfl,hn⟩,rfl⟩
   refine BIf.not (BIf.dec (fun h3=>?_) (fun h3=>?_))
   rotate_left
   ·have h30: ¬hdA 32 x=lastW:=fun e=>h3 (congrArg mkS e)
    refine ⟨⟨S1,⟨X1,t1,s1⟩⟩,⟨rfl,hstop fun m q=>?_⟩,Ent.mk' trivial rfl (fun β w' hs=>((hs.keepB (((List.nil_sublist _).cons_cons _).cons _ |>.cons _)).perm [1]))⟩
    rcases q with ⟨_,q,_⟩ | ⟨q,_⟩ | ⟨q,_⟩
    ·exact h30 q
    ·exact q hp0
    ·exact q hp0
   have h30:hdA 32 x=lastW:=mkS1 h3
   cases nb with
   | false=>
    refine ⟨⟨S1,⟨X1,t1,s1⟩⟩,⟨rfl,hstop fun m q=>?_⟩,Ent.mk' trivial rfl (fun β w' hs=>((hs.keepB (((List.nil_sublist _).cons_cons _).cons _ |>.cons _)).perm [1]))⟩
    rcases q with ⟨_,_,⟨n2,q,_⟩,_⟩ | ⟨q,_⟩ | ⟨q,_⟩
    ·rcases hn with ⟨k,_⟩ | ⟨_,k⟩
     ·cases k
     ·exact k n2 q
    ·exact q hp0
    ·exact q hp0
   | true=>
   have hn1:numOk (mkS (hdB 32 x)) n:=by
    rcases hn with ⟨_,k⟩ | ⟨k,_⟩
    ·exact k
    ·cases k
   obtain ⟨rc,rX,hr⟩: ∃rc rX,raiseA X1 n=(rc,rX):=⟨_,_,rfl⟩
   refine z_aa [1] (R:=stoOut S1 (rc,rX)) (fun β w' hs=>by
    have h:=z_tG w' S1 n (hs.mem.take (js:=[1]) rfl)
    rw [hib,ha,hr] at h
    exact h) ?_
   rintro v Fs ⟨S2,rfl,ha2,hb2,rfl⟩
   simp only at ha2
   refine BIf.not (BIf.dec (fun h4=>?_) (fun h4=>?_))
   ·have h40:rc=0:=h4
    subst h40
    refine ⟨⟨S2,⟨rX,t1,s1⟩⟩,hgo ⟨rX,t1,s1⟩ (.inl ⟨hp0,h30,⟨n,hn1,hr⟩,rfl,rfl⟩) ht S2 ha2 (hb2.trans hib),Ent.mk' trivial rfl (fun β w' hs=>hs.perm [0])⟩
   ·have h40: ¬rc=0:=h4
    refine ⟨⟨S2,⟨X1,t1,s1⟩⟩,⟨rfl,hstop fun m q=>?_⟩,Ent.mk' trivial rfl (fun β w' hs=>((hs.keepB (((List.nil_sublist _).cons_cons _).cons _ |>.cons _)).perm [0]))⟩
    rcases q with ⟨_,_,⟨n2,q,q2⟩,_⟩ | ⟨q,_⟩ | ⟨q,_⟩
    ·obtain rfl:=z_pP _ _ _ q hn1
     have q3:raiseA X1 n2=(0,m.X):=q2
     rw [hr] at q3
     injection q3 with q4 _
     exact h40 q4
    ·exact q hp0
    ·exact q hp0
  have h10: ¬((pre.length+1:Nat):Int)=1:=h1
  refine BIf.dec (fun h2=>?_) (fun h2=>?_)
  ·have h20:hdA 32 x=tenW:=mkS1 h2
   obtain ⟨rc,rX,hr⟩: ∃rc rX,addT X1 (mkS (hdB 32 x))=(rc,rX):=⟨_,_,rfl⟩
   have hdl:=z_tw 32 x
   refine z_aa [1] (R:=stoOut S1 (rc,rX)) (fun β w' hs=>by
    have h:=z_ns w' S1 (mkS (hdB 32 x)) (by show (hdB 32 x).length<=_;omega) (hs.mem.take (js:=[1]) rfl)
    rw [hib,ha,hr] at h
    exact h) ?_
   rintro v Fs ⟨S2,rfl,ha2,hb2,rfl⟩
   simp only at ha2
   refine BIf.not (BIf.dec (fun h4=>?_) (fun h4=>?_))
   ·have h40:rc=0:=h4
    subst h40
    have hpl:=z_ua hr
    rw [mkSo] at hpl
    refine ⟨⟨S2,⟨rX,hdB 32 x,true⟩⟩,hgo ⟨rX,hdB 32 x,true⟩ (.inr (.inl ⟨by omega,h20,hr,rfl,rfl⟩)) (by
     unfold plainF at hpl
     simp only [Bool.and_eq_true,decide_eq_true_eq] at hpl
     exact hpl.2.2) S2 ha2 (hb2.trans hib),Ent.mk' trivial rfl (fun β w' hs=>hs.perm [0])⟩
   ·have h40: ¬rc=0:=h4
    refine ⟨⟨S2,⟨X1,t1,s1⟩⟩,⟨rfl,hstop fun m q=>?_⟩,Ent.mk' trivial rfl (fun β w' hs=>((hs.keepB (((List.nil_sublist _).cons_cons _).cons _ |>.cons _)).perm [0]))⟩
    rcases q with ⟨q,_⟩ | ⟨_,_,q,_⟩ | ⟨_,q,_⟩
    ·exact h10 (by omega)
    ·have q3:addT X1 (mkS (hdB 32 x))=(0,m.X):=q
     rw [hr] at q3
     injection q3 with q4 _
     exact h40 q4
    ·exact q h20
  have h20: ¬hdA 32 x=tenW:=fun e=>h2 (congrArg mkS e)
  refine z_aa [] (fun β w' hs=>z_yb w' t1 x (by omega) (hs.mem.take (js:=[2,3,4,5]) rfl)) ?_
  rintro v Fs (⟨c,hu,rfl,rfl⟩ | ⟨hu,⟨xv,rfl⟩,rfl⟩)
  rotate_left
  ·refine ⟨⟨S1,⟨X1,t1,s1⟩⟩,⟨rfl,hstop fun m q=>?_⟩,Ent.mk' trivial rfl (fun β w' hs=>((hs.keepB (((((List.nil_sublist _).cons_cons _).cons _).cons _).cons _)).perm [1]).lower)⟩
   rcases q with ⟨q,_⟩ | ⟨_,q,_⟩ | ⟨_,_,⟨c,q,_⟩,_⟩
   ·exact h10 (by omega)
   ·exact h20 q
   ·exact hu c q
  cases s1 with
  | false=>
   refine ⟨⟨S1,⟨X1,t1,false⟩⟩,⟨rfl,hstop fun m q=>?_⟩,Ent.mk' trivial rfl (fun β w' hs=>((hs.keepB (((((List.nil_sublist _).cons_cons _).cons _).cons _).cons _)).perm [2]).lower)⟩
   rcases q with ⟨q,_⟩ | ⟨_,q,_⟩ | ⟨_,_,_,q,_⟩
   ·exact h10 (by omega)
   ·exact h20 q
   ·cases q
  | true=>
  obtain ⟨rc,rX,hr⟩: ∃rc rX,loadA X1 c.a=(rc,rX):=⟨_,_,rfl⟩
  have hcz:=Par.sz hu.1 hxl
  have hct:c.tenant=mkS t1:=hu.1.ten
  refine z_aa [2] (R:=stoOut S1 (rc,rX)) (fun β w' hs=>by
   have hm2:=((hs.asRo 0 rfl).ofRo 0 rfl (crRd c) rfl (z_rH (hs.get 0 rfl) (c:=c) (by simp)) (fun k hk=>⟨crRd c,by simp,hk⟩)).mem.take (js:=[3,0,8]) rfl
   have h:=z_ww w' S1 c (by rw [hct];show t1.length<=_;omega) hcz.u hcz.r hcz.n hcz.z hm2
   rw [hib,ha,hr] at h
   exact h) ?_
  rintro v Fs ⟨S2,rfl,ha2,hb2,rfl⟩
  simp only at ha2
  refine BIf.not (BIf.dec (fun h4=>?_) (fun h4=>?_))
  ·have h40:rc=0:=h4
   subst h40
   exact ⟨⟨S2,⟨rX,t1,true⟩⟩,hgo ⟨rX,t1,true⟩ (.inr (.inr ⟨by omega,h20,⟨c.a,hu,hr⟩,rfl,rfl,rfl⟩)) ht S2 ha2 (hb2.trans hib),Ent.mk' trivial rfl (fun β w' hs=>((hs.keepB (List.sublist_cons_self _ _)).perm [0]).lower)⟩
  ·have h40: ¬rc=0:=h4
   refine ⟨⟨S2,⟨X1,t1,true⟩⟩,⟨rfl,hstop fun m q=>?_⟩,Ent.mk' trivial rfl (fun β w' hs=>((hs.keepB (((((List.nil_sublist _).cons_cons _).cons _).cons _).cons _)).perm [0]).lower)⟩
   rcases q with ⟨q,_⟩ | ⟨_,q,_⟩ | ⟨_,_,⟨d,q,q2⟩,_⟩
   ·exact h10 (by omega)
   ·exact h20 q
   ·obtain rfl:=Par.one z_pP q.1 hu.1
    have q3:loadA X1 c.a=(0,m.X):=q2
    rw [hr] at q3
    injection q3 with q4 _
    exact h40 q4
 ·rintro xs ⟨S1,f1⟩ Fs ⟨hrun,ha,hib,ht,hpre⟩ ⟨rfl,rfl⟩
  intro β w' hs
  exact (hs.keepB (List.nil_sublist _)).fin [0] (.inl ⟨rfl,S1,f1,hrun,ha,hib,rfl⟩)
 ·rintro e pre ⟨S1,f1⟩ Fs ⟨rfl,hno⟩ rfl
  intro β w' hs
  exact (hs.keepB (List.nil_sublist _)).fin [0] (.inr ⟨rfl,hno,S1,rfl⟩)
theorem z_yq:lnL d0=[[108,97,115,116,32,48]]:=by decide
theorem z_xC (w:World) (S:Sto) (hS:S.ts=[]) (hS0:S.last=0) (hm:Mem w [stoF S,mlF]):Con Tryz.prog z_ju #[ptr S.b,.string (mkS d0)] w [stoF S] (fun v Fs=>v= .bool true/\ ∃S',S'.b=S.b/\S'.ts=[]/\S'.last=0/\Fs=[stoF S']):=by
 have g:=z_jg w (Un [stoF S])
 refine z_eM (cx:=z_il w (Un [stoF S])) g z_mD [.c (.v (ptr S.b)),.c (.v (.string (mkS d0)))] [mlF] hm ?_
 refine z_aa [] (fun β w' hs=>z_m9 w' (mkS d0)) ?_
 rintro v Fs ⟨bx,rfl,rfl⟩
 refine z_aG (α:=List UInt8) (ι:=Sto) (κ:=Unit) g rfl (cv:=[.pointer (some ⟨bx,0,none⟩)]) rfl (by kernel_rfl) 4 (Nat.le_refl 4) (fun _ i=>i.b=S.b/\i.ts=[]/\i.last=0) (fun _=>[⟨3,4,[.v (.bool false)]⟩,⟨2,9,[.v (.string ⟨#[]⟩)]⟩,⟨1,4,[.v (.bool false)]⟩,⟨0,25,[.v (ptr S.b)]⟩]) (fun i=>[stoF i]) (fun _=>⟨rfl,trivial⟩) (fun _ _ _=>False) (fun _=>[]) (fun _=>[]) (fun _=>trivial) [bkF bx z_ag [.string (mkS d0)]] [mlF] [mlF] ⟨rfl,trivial⟩ (fun g h=>by obtain rfl:=List.mem_singleton.1 h;rfl) S ⟨rfl,hS,hS0⟩ (fun β w hs=>⟨β,Agr.refl _ _,?_⟩) (insLn (lnL d0)) (fun xs Fs'=>xs=lnL d0/\Fs'=[]) (fun pre Fs'=>Fs'=[]) (fun l w f0 R J Jx h1 h2 h3 h4 h5=>(z_rm l w bx d0 (by decide) f0 R J Jx h1 h2 h3 h4 h5).mono fun _ _ h=>h) ?_ ?_ ?_
 ·exact (hs.sub 2 rfl rfl mlF rfl (hs.get 2 rfl) (fun _ h=>h)).perm [1,0,2,3]
 ·rintro i pre x args X W S0 l0 bs pn pn' hbs ⟨hib,hit,hil⟩ ⟨rfl,rfl,hx⟩
  rw [z_yq] at hx
  have hxl:x=[108,97,115,116,32,48]/\pre=[]:=by
   cases pre with
   | nil=>exact ⟨(Option.some.inj hx).symm,rfl⟩
   | cons a t=>cases hx
  obtain ⟨rfl,rfl⟩:=hxl
  refine ⟨_,rfl,?_⟩
  refine z_ae (v:= .tuple #[.string (mkS [108,97,115,116]),.string (mkS [48]),.bool true]) (fun β w' hs=>z_uB w' [108,97,115,116,32,48] 32 (by decide) (hs.get 2 rfl)) ?_
  refine z_ae (v:= .tuple #[.int .u64 0,.bool true]) (fun β w' hs=>z_tJ w') ?_
  refine z_aa [1] (R:=stoOut i (0,i.a)) (fun β w' hs=>by
   have h:=z_tG w' i 0 (hs.mem.take (js:=[1]) rfl)
   have e:raiseA i.a 0=(0,i.a):=by
    have:i.a.last=0:=hil
    unfold raiseA
    rw [if_neg (by decide),this]
    cases hq:i.a with
    | mk a b c=>rw [hq] at this;simp only at this;subst this;rfl
   rw [e,hib] at h
   exact h) ?_
  rintro v Fs ⟨S',rfl,ha,hb,rfl⟩
  have ht:S'.ts=[]:=by
   have:=congrArg ASto.ts ha
   simp [Sto.a,hit] at this
   exact this
  exact ⟨S',⟨hb.trans hib,ht,(congrArg ASto.last ha).trans hil⟩,Ent.mk' trivial rfl (fun β w' hs=>hs.perm [0])⟩
 ·rintro xs i Fs ⟨hib,hit,hil⟩ ⟨rfl,rfl⟩
  intro β w' hs
  exact (hs.keepB (List.nil_sublist _)).fin [0] ⟨rfl,i,hib,hit,hil,rfl⟩
 ·rintro e pre j Fs h
  exact h.elim
theorem z_q9 (w:World) (s p:ByteArray):Pu Tryz.prog z_jT #[.string s,.string p] w (.tuple #[.string ⟨(Lib.trimPrefix s.data.toList p.data.toList).toArray⟩,.bool (Lib.hasPrefix s.data.toList p.data.toList)]):=by
 refine pu_of (Calls.mono (Tryz.strings_CutPrefix s p w) ?_)
 rintro e w' ⟨rfl,rfl⟩
 exact ⟨_,rfl,rfl,Chg.refl _ _⟩
theorem z_mx (w:World) (s p:ByteArray) (hs:s.size<=1000000):Pu Tryz.prog z_jy #[.string s,.string p] w (.bool (Lib.hasSuffix s.data.toList p.data.toList)):=by
 refine pu_of (Calls.mono (Tryz.strings_HasSuffix s p w (by omega)) ?_)
 rintro e w' ⟨rfl,rfl⟩
 exact ⟨_,rfl,rfl,Chg.refl _ _⟩
theorem z_p4 (w:World) (s p:ByteArray) (hs:s.size<=1000000):Pu Tryz.prog z_i6 #[.string s,.string p] w (.string ⟨(Lib.trimSuffix s.data.toList p.data.toList).toArray⟩):=by
 refine pu_of (Calls.mono (Tryz.strings_TrimSuffix s p w (by omega)) ?_)
 rintro e w' ⟨rfl,rfl⟩
 exact ⟨_,rfl,rfl,Chg.refl _ _⟩
def hx0:List UInt8:=hexB (Sha.sum d0)
theorem z_qs:hx0.length=64:=by rw [hx0,z_fg];rfl
theorem pf1:Lib.hasPrefix (sumL d0) [115,117,109,32]=true:=by
 show Lib.hasPrefix (115::117::109::32::(hexB (Sha.sum d0)++[10])) [115,117,109,32]=true
 simp [Lib.hasPrefix]
theorem pf2:Lib.trimPrefix (sumL d0) [115,117,109,32]=hx0++[10]:=by
 unfold Lib.trimPrefix
 rw [pf1]
 rfl
theorem pf3:Lib.hasSuffix (hx0++[10]) [10]=true:=by simp [Lib.hasSuffix]
theorem pf4:Lib.trimSuffix (hx0++[10]) [10]=hx0:=by
 unfold Lib.trimSuffix
 rw [pf3]
 simp
theorem dig16: ∀k:Nat,k<16->digA (dgs.getD k 0)=some k:=by decide
theorem z_oq: ∀l:List UInt8,unhexA (hexB l)=some l
 | []=>rfl
 | x::r=>by
  have ih:=z_oq r
  have hx:=x.toNat_lt
  have h1:=dig16 (x.toNat/16) (by omega)
  have h2:=dig16 (x.toNat%16) (by omega)
  show unhexA (dgs.getD (x.toNat/16) 0::dgs.getD (x.toNat%16) 0::hexB r)=_
  unfold unhexA
  rw [h1,h2,ih]
  show some (u8n (x.toNat/16*16+x.toNat%16)::r)=_
  rw [Nat.div_add_mod']
  simp [u8n]
theorem z_vv (w:World) (T:List UInt8) (hT:sumL d0=T) (hm:Mem w [oddF 2,firstF 0,mlF]):Con Tryz.prog z_jP #[.string (mkS (d0++T))] w [] (fun v Fs=> ∃S,v= .tuple #[ptr S.b,.int .i64 0]/\S.ts=[]/\S.last=0/\Fs=[stoF S]):=by
 have g:=z_jd w (Un [])
 have hml:=maxLen_eq
 have hl:(d0++T).length=76:=by rw [<-hT,List.length_append,z_cY];rfl
 refine z_eM (cx:=z_h6 w (Un [])) g z_mK [.c (.v (.string (mkS (d0++T))))] [oddF 2,firstF 0,mlF] hm ?_
 refine BIf.dec (fun q=>absurd (show (262144:Int)<((d0++T).length:Int) from q) (by omega)) (fun _=>?_)
 refine z_ae (v:= .string (mkS (sumL []))) (fun β w' hs=>z_fM w' [] (by decide) (hs.get 0 rfl) (hs.get 1 rfl)) ?_
 refine BIf.dec (fun q=>absurd (show ((d0++T).length:Int)<((sumL []).length:Int) from q) (by rw [z_cY];omega)) (fun _=>?_)
 refine z_aj g z_kD (by kernel_rfl) [] [oddF 2,firstF 0,mlF] (Sub.of (List.Sublist.refl _) (List.Sublist.refl _)) ?_
 have e7:IntKind.i64.wrap (((mkS (d0++T)).size:Int) - ((mkS (sumL [])).size:Int))=7:=by
  show IntKind.i64.wrap (((d0++T).length:Int) - ((sumL []).length:Int))=7
  rw [hl,z_cY]
  decide
 have hsz:(mkS (d0++T)).size=76:=hl
 have x1:(mkS (d0++T)).extract 0 7=mkS d0:=by rw [z_eJ _ 0 7 (by omega)];congr 1
 have x2:(mkS (d0++T)).extract 7 (mkS (d0++T)).size=mkS T:=by
  rw [hsz,z_eJ _ 7 76 (by omega),List.take_of_length_le (by omega)]
  congr 1
 refine ⟨7,e7,?_⟩
 refine ⟨7,0,rfl,rfl,by omega,Nat.zero_le _,?_⟩
 refine ⟨7,e7,?_⟩
 refine ⟨(mkS (d0++T)).size,7,rfl,rfl,Nat.le_refl _,by omega,?_⟩
 rw [x1,x2]
 refine z_ae (v:= .tuple #[.string (mkS (hx0++[10])),.bool true]) (fun β w' hs=>by
  have h:=z_q9 w' (mkS T) (mkS [115,117,109,32])
  rw [mkSo,mkSo,<-hT,pf1,pf2] at h
  rw [<-hT]
  exact h) ?_
 refine z_ae (v:= .string (mkS hx0)) (fun β w' hs=>by
  have h:=z_p4 w' (mkS (hx0++[10])) (mkS [10]) (by show (hx0++[10]).length<=_;rw [List.length_append,z_qs];decide)
  rw [mkSo,mkSo,pf4] at h
  exact h) ?_
 refine z_aa [] (fun β w' hs=>z_qr w' hx0 (by rw [z_qs];decide)) ?_
 rintro v Fs ⟨A,l',c,e,rfl,hd,hlc,rfl⟩
 have hu:=z_oq (Sha.sum d0)
 obtain rfl:e=0:=by
  rcases hd with ⟨h,_⟩ | ⟨_,h⟩
  ·exact h
  ·exact absurd (hu.symm.trans h) (by simp)
 clear hd hu
 refine z_ae (v:= .bool true) (fun β w' hs=>by
  have h:=z_mx w' (mkS (hx0++[10])) (mkS [10]) (by show (hx0++[10]).length<=_;rw [List.length_append,z_qs];decide)
  rw [mkSo,mkSo,pf3] at h
  exact h) ?_
 refine z_ae (v:= .bool true) (fun β w' hs=>by
  have h:=z_mx w' (mkS d0) (mkS [10]) (by decide)
  rw [mkSo,mkSo,show Lib.hasSuffix d0 [10]=true from by decide] at h
  exact h) ?_
 refine z_ae (v:= .string (mkS T)) (fun β w' hs=>by
  have h:=z_fM w' d0 (by decide) (hs.get 1 rfl) (hs.get 2 rfl)
  rw [hT] at h
  exact h) ?_
 refine BIf.not (BIf.dec (fun _=>?_) (fun h=>absurd rfl h))
 refine z_aa [] (fun β w' hs=>z_rD w') ?_
 rintro v Fs ⟨b,m,rfl,rfl⟩
 refine z_aa [0] (fun β w' hs=>z_xC w' (sto0 b m) rfl rfl (hs.mem.take (js:=[0,4]) rfl)) ?_
 rintro v Fs ⟨rfl,S',hb,ht,hl0,rfl⟩
 replace hb:S'.b=b:=hb
 refine z_aa [0] (R:=fun v Fs=>v= .string (mkS (d0++T))/\Fs=[stoF S']) (fun β w' hs=>by
  have h:=z_qJ w' S' ht hl0 (hs.mem.take (js:=[0,2,3]) rfl)
  rw [hT,hb] at h
  exact h) ?_
 rintro v Fs ⟨rfl,rfl⟩
 refine BIf.not (BIf.dec (fun _=>?_) (fun h=>absurd rfl h))
 intro β w' hs
 exact hs.fin [0] ⟨S',by rw [hb];rfl,ht,hl0,rfl⟩
theorem z_ue (w:World) (hm:Mem w [oddF 2,firstF 0,mlF,oddF 1]):Pu Tryz.prog z_dy #[] w (.bool true):=by
 have g:=z_gL w (Un [])
 obtain ⟨T,hT⟩: ∃T,sumL d0=T:=⟨_,rfl⟩
 refine z_eM (cx:=z_c2 w (Un [])) g z_iP [] [oddF 2,firstF 0,mlF,oddF 1] hm ?_
 refine z_aa [] (fun β w' hs=>z_rD w') ?_
 rintro v Fs ⟨b,m,rfl,rfl⟩
 refine z_aa [0] (R:=fun v Fs=>v= .string (mkS (d0++T))/\Fs=[stoF (sto0 b m)]) (fun β w' hs=>by
  have h:=z_qJ w' (sto0 b m) rfl rfl (hs.mem.take (js:=[0,1,2]) rfl)
  rw [hT] at h
  exact h) ?_
 rintro v Fs ⟨rfl,rfl⟩
 refine z_aa [] (fun β w' hs=>z_vv w' T hT (hs.mem.take (js:=[1,2,3]) rfl)) ?_
 rintro v Fs ⟨S,rfl,ht,hl0,rfl⟩
 refine z_ae (v:= .string (mkS (d0++T))) (fun β w' hs=>by
  have h:=z_na w' d0 (by decide) (hs.get 5 rfl)
  rw [hT] at h
  exact h) ?_
 refine BIf.dec (fun _=>?_) (fun h=>absurd rfl h)
 refine z_aa [0] (R:=fun v Fs=>v= .string (mkS (d0++T))/\Fs=[stoF S]) (fun β w' hs=>by
  have h:=z_qJ w' S ht hl0 (hs.mem.take (js:=[0,2,3]) rfl)
  rw [hT] at h
  exact h) ?_
 rintro v Fs ⟨rfl,rfl⟩
 intro β w' hs
 refine hs.fin [] ⟨?_,rfl⟩
 show Value.bool (decide (mkS (d0++T)=mkS (d0++T)))=_
 simp
def sumW:List UInt8:=[115,117,109,32]
def bodyT (T:List UInt8):List UInt8:=T.take (T.length - 69)
def sealT (T:List UInt8):List UInt8:=T.drop (T.length - 69)
structure Shp (T:List UInt8):Prop where
 p:Lib.hasPrefix (sealT T) sumW=true
 u: ∃l,unhexA (Lib.trimSuffix (Lib.trimPrefix (sealT T) sumW) [10])=some l
 s:Lib.hasSuffix (Lib.trimPrefix (sealT T) sumW) [10]=true
 b:bodyT T=[]\/Lib.hasSuffix (bodyT T) [10]=true
def CodeT (Ok:List UInt8->Prop) (T:List UInt8) (e:Int):Prop:=
 (262144<T.length/\e=3)\/(T.length<=262144/\((T.length<69/\e=4)\/(69<=T.length/\
  ((¬Shp T/\e=4)\/(Shp T/\((sumL (bodyT T)≠sealT T/\e=13)\/(sumL (bodyT T)=sealT T/\((¬Ok (bodyT T)/\e=4)\/(Ok (bodyT T)/\e=0)))))))))
theorem z_ro {Ok Ok':List UInt8->Prop} (h: ∀b,Ok b↔Ok' b) {T:List UInt8} {e e':Int} (h1:CodeT Ok T e) (h2:CodeT Ok' T e'):e=e':=by
 rcases h1 with ⟨a1,rfl⟩ | ⟨a1,⟨a2,rfl⟩ | ⟨a2,⟨a3,rfl⟩ | ⟨a3,⟨a4,rfl⟩ | ⟨a4,⟨a5,rfl⟩ | ⟨a5,rfl⟩⟩⟩⟩⟩<;>
 rcases h2 with ⟨b1,rfl⟩ | ⟨b1,⟨b2,rfl⟩ | ⟨b2,⟨b3,rfl⟩ | ⟨b3,⟨b4,rfl⟩ | ⟨b4,⟨b5,rfl⟩ | ⟨b5,rfl⟩⟩⟩⟩⟩<;>
 first
  | rfl
  | (exfalso;omega)
  | exact absurd b3 a3
  | exact absurd a3 b3
  | exact absurd b4 a4
  | exact absurd a4 b4
  | exact absurd ((h _).2 b5) a5
  | exact absurd ((h _).1 a5) b5
theorem z_kX (T:List UInt8):bodyT T++sealT T=T:=List.take_append_drop _ _
theorem z_vR {T:List UInt8} (h:69<=T.length):(sealT T).length=69:=by
 unfold sealT
 rw [List.length_drop]
 omega
def LoadOut (T:List UInt8) (v:Value) (Fs:List Fact):Prop:= ∃e:Int,CodeT OkP T e/\((e≠0/\v= .tuple #[.pointer none,.int .i64 e]/\Fs=[])\/
 (e=0/\ ∃(S:Sto) (Y:RA),Jn S.a Y/\RPl Y/\dumpL S.a=T/\v= .tuple #[ptr S.b,.int .i64 0]/\Fs=[stoF S]))
theorem z_uy {b:List UInt8} {x:FS} (h:Run StepP 0 (lnL b) fs0 x): ∃Y:RA,Jn x.X Y/\RPl Y:=by
 obtain ⟨y,k1,k2⟩:=Run.sim FG (fun _ _=>True) z_uE _ 0 fs0 gs0 x fg0 (fun _ _ _=>trivial) h
 exact ⟨y.Y,k2.j,Run.inv (fun a=>RPl a.Y) RPl.step _ 0 gs0 y ⟨fun _ h=>(by cases h),fun _ h=>(by cases h)⟩ k1⟩
set_option maxHeartbeats 1000000 in
theorem z_r1 (w:World) (T:List UInt8) (hT:T.length<=100000) (hm:Mem w [oddF 2,firstF 0,mlF,errF 5,errF 6,powF,namF]):Con Tryz.prog z_jP #[.string (mkS T)] w [] (LoadOut T):=by
 have g:=z_jd w (Un [])
 have hml:=maxLen_eq
 refine z_lp (cx:=z_h6 w (Un [])) g z_mK [.c (.v (.string (mkS T)))] [oddF 2,firstF 0,mlF,errF 5,errF 6,powF,namF] hm ?_ ⟨rfl,rfl,rfl,rfl,rfl,rfl,rfl,trivial⟩
 refine z_ao g ?_
 refine z_ao g ?_
 refine BIf.dec (fun q=>absurd (show (262144:Int)<(T.length:Int) from q) (by omega)) (fun _=>?_)
 refine z_ao g ?_
 refine z_ae (v:= .string (mkS (sumL []))) (fun β w' hs=>z_fM w' [] (by decide) (hs.get 0 rfl) (hs.get 1 rfl)) ?_
 have h69:((mkS (sumL [])).size:Int)=69:=by show ((sumL []).length:Int)=69;rw [z_cY];rfl
 refine z_ao g ?_
 refine BIf.dec (fun q=>?_) (fun q=>?_)
 ·have q0:(T.length:Int)<((mkS (sumL [])).size:Int):=q
  intro β w' hs
  exact hs.fin [] ⟨4,.inr ⟨by omega,.inl ⟨by omega,rfl⟩⟩,.inl ⟨by decide,rfl,rfl⟩⟩
 have q0: ¬(T.length:Int)<((mkS (sumL [])).size:Int):=q
 have hTl:69<=T.length:=by omega
 obtain ⟨k,hk⟩: ∃k,T.length - 69=k:=⟨_,rfl⟩
 have ek:IntKind.i64.wrap (((mkS T).size:Int) - ((mkS (sumL [])).size:Int))=(k:Int):=by
  rw [h69]
  show IntKind.i64.wrap ((T.length:Int) - 69)=_
  rw [wrap_i64 (by omega) (by omega)]
  omega
 have hsz:(mkS T).size=T.length:=rfl
 have x1:(mkS T).extract 0 k=mkS (bodyT T):=by rw [z_eJ _ 0 k (by omega),List.drop_zero];unfold bodyT;rw [hk]
 have x2:(mkS T).extract k (mkS T).size=mkS (sealT T):=by
  rw [hsz,z_eJ _ k _ (Nat.le_refl _),List.take_length]
  unfold sealT
  rw [hk]
 refine z_ao g ?_
 refine z_aj g z_kD (by kernel_rfl) [] [oddF 2,firstF 0,mlF,errF 5,errF 6,powF,namF] (Sub.of (List.Sublist.refl _) (List.Sublist.refl _)) ?_
 refine ⟨(k:Int),ek,?_⟩
 refine ⟨k,0,rfl,rfl,by omega,Nat.zero_le _,?_⟩
 refine ⟨(k:Int),ek,?_⟩
 refine ⟨(mkS T).size,k,rfl,rfl,Nat.le_refl _,by omega,?_⟩
 rw [x1,x2]
 have hsl:=z_vR hTl
 have hbl:(bodyT T).length<=99999:=by unfold bodyT;rw [List.length_take];omega
 have hno: ¬Shp T->CodeT OkP T 4:=fun h=> .inr ⟨by omega,.inr ⟨hTl,.inl ⟨h,rfl⟩⟩⟩
 have hbs:=z_kX T
 have hshp:Shp T↔(Lib.hasPrefix (sealT T) sumW=true/\(∃l,unhexA (Lib.trimSuffix (Lib.trimPrefix (sealT T) sumW) [10])=some l)/\Lib.hasSuffix (Lib.trimPrefix (sealT T) sumW) [10]=true/\(bodyT T=[]\/Lib.hasSuffix (bodyT T) [10]=true)):=⟨fun h=>⟨h.p,h.u,h.s,h.b⟩,fun h=>⟨h.1,h.2.1,h.2.2.1,h.2.2.2⟩⟩
 have hdl:(Lib.trimPrefix (sealT T) sumW).length<=69:=by
  unfold Lib.trimPrefix
  split
  ·rw [List.length_drop];omega
  ·omega
 have hd2:(Lib.trimSuffix (Lib.trimPrefix (sealT T) sumW) [10]).length<=69:=by
  unfold Lib.trimSuffix
  split
  ·rw [List.length_take];omega
  ·omega
 refine z_ao g ?_
 refine z_ae (v:= .tuple #[.string (mkS (Lib.trimPrefix (sealT T) sumW)),.bool (Lib.hasPrefix (sealT T) sumW)]) (fun β w' hs=>by
  have h:=z_q9 w' (mkS (sealT T)) (mkS sumW)
  rw [mkSo,mkSo] at h
  exact h) ?_
 generalize Lib.trimPrefix (sealT T) sumW=dg at hshp hdl hd2 ⊢
 refine z_ce (ι:=Unit) g (fun _=>Shp T) 0 (fun _=>[(0,.c (.v (.string (mkS T)))),(2,.c (.v (.pointer none))),(3,.c (.v (.int .i64 0))),(5,.c (.v (.string (mkS (bodyT T))))),(6,.c (.v (.string (mkS (sealT T)))))]) (fun _=>[]) (fun _=>[oddF 2,firstF 0,mlF,errF 5,errF 6,powF,namF]) ?_ ?_
 rotate_left
 ·refine z_ae (v:= .string (mkS (Lib.trimSuffix dg [10]))) (fun β w' hs=>by
   have h:=z_p4 w' (mkS dg) (mkS [10]) (by show dg.length<=_;omega)
   rw [mkSo,mkSo] at h
   exact h) ?_
  generalize Lib.trimSuffix dg [10]=d2 at hshp hd2 ⊢
  refine z_aa [] (fun β w' hs=>z_qr w' d2 (by omega)) ?_
  rintro v Fs ⟨A,l',c,e,rfl,hd,hlc,rfl⟩
  generalize Lib.hasPrefix (sealT T) sumW=hp at hshp ⊢
  cases hp with
  | false=>
   intro β w' hs
   exact hs.fin [] ⟨4,hno (fun h=>by have:=(hshp.1 h).1;cases this),.inl ⟨by decide,rfl,rfl⟩⟩
  | true=>
  refine BIf.not (BIf.dec (fun he=>?_) (fun he=>?_))
  rotate_left
  ·have he0: ¬e=0:=he
   intro β w' hs
   exact hs.fin [] ⟨4,hno (fun h=>by
    obtain ⟨l,hl⟩:=(hshp.1 h).2.1
    rcases hd with ⟨q,_⟩ | ⟨_,q⟩
    ·exact he0 q
    ·rw [hl] at q;cases q),.inl ⟨by decide,rfl,rfl⟩⟩
  have he0:e=0:=he
  have hun: ∃l,unhexA d2=some l:=by
   rcases hd with ⟨_,q⟩ | ⟨q,_⟩
   ·exact ⟨_,q⟩
   ·exact absurd he0 q
  refine z_ae (v:= .bool (Lib.hasSuffix dg [10])) (fun β w' hs=>by
   have h:=z_mx w' (mkS dg) (mkS [10]) (by show dg.length<=_;omega)
   rw [mkSo,mkSo] at h
   exact h) ?_
  generalize Lib.hasSuffix dg [10]=hsx at hshp ⊢
  cases hsx with
  | false=>
   intro β w' hs
   exact hs.fin [] ⟨4,hno (fun h=>by have:=(hshp.1 h).2.2.1;cases this),.inl ⟨by decide,rfl,rfl⟩⟩
  | true=>
  refine BIf.not (BIf.dec (fun hb0=>?_) (fun hb0=>?_))
  ·have hb1:bodyT T=[]:=mkS1 (show mkS (bodyT T)=mkS [] from hb0)
   exact EntX.of () (hshp.2 ⟨rfl,hun,rfl,.inl hb1⟩) (Ent.mk' ⟨rfl,rfl,rfl,rfl,rfl,trivial⟩ rfl (fun β w' hs=>hs.perm [1,2,3,4,5,6,7]))
  have hb1: ¬bodyT T=[]:=fun e=>hb0 (congrArg mkS e)
  refine z_ae (v:= .bool (Lib.hasSuffix (bodyT T) [10])) (fun β w' hs=>by
   have h:=z_mx w' (mkS (bodyT T)) (mkS [10]) (by show (bodyT T).length<=_;omega)
   rw [mkSo,mkSo] at h
   exact h) ?_
  generalize Lib.hasSuffix (bodyT T) [10]=hbx at hshp ⊢
  cases hbx with
  | false=>
   intro β w' hs
   exact hs.fin [] ⟨4,hno (fun h=>by
    rcases (hshp.1 h).2.2.2 with q | q
    ·exact hb1 q
    ·cases q),.inl ⟨by decide,rfl,rfl⟩⟩
  | true=>
   exact EntX.of () (hshp.2 ⟨rfl,hun,rfl,.inr rfl⟩) (Ent.mk' ⟨rfl,rfl,rfl,rfl,rfl,trivial⟩ rfl (fun β w' hs=>hs.perm [1,2,3,4,5,6,7]))
 rintro _ hS
 clear hshp hdl hd2 hno
 refine z_ao g ?_
 refine z_ae (v:= .string (mkS (sumL (bodyT T)))) (fun β w' hs=>z_fM w' (bodyT T) (by omega) (hs.get 0 rfl) (hs.get 1 rfl)) ?_
 refine BIf.not (BIf.dec (fun h5=>?_) (fun h5=>?_))
 rotate_left
 ·have h50:sumL (bodyT T)≠sealT T:=fun e=>h5 (congrArg mkS e)
  intro β w' hs
  exact hs.fin [] ⟨13,.inr ⟨by omega,.inr ⟨hTl,.inr ⟨hS,.inl ⟨h50,rfl⟩⟩⟩⟩,.inl ⟨by decide,rfl,rfl⟩⟩
 have h50:sumL (bodyT T)=sealT T:=mkS1 h5
 have hbad: ¬OkP (bodyT T)->CodeT OkP T 4:=fun h=> .inr ⟨by omega,.inr ⟨hTl,.inr ⟨hS,.inr ⟨h50,.inl ⟨h,rfl⟩⟩⟩⟩⟩
 refine z_ao g ?_
 refine z_aa [] (fun β w' hs=>z_rD w') ?_
 rintro v Fs ⟨b,m,rfl,rfl⟩
 refine z_ao g ?_
 refine z_aa [0] (fun β w' hs=>z_yv w' (sto0 b m) (bodyT T) hbl (hs.mem.take (js:=[0,3,4,5,6,7]) rfl)) ?_
 rintro v Fs (⟨rfl,S',x,hrun,hSa,hSb,rfl⟩ | ⟨rfl,hrun,S',rfl⟩)
 rotate_left
 ·intro β w' hs
  exact (hs.keepB (List.nil_sublist _)).fin [] ⟨4,hbad (fun ⟨x,hx,_⟩=>hrun x hx),.inl ⟨by decide,rfl,rfl⟩⟩
 have hrun0:Run StepP 0 (lnL (bodyT T)) fs0 x:=hrun
 obtain ⟨Y,hj,hp⟩:=z_uy hrun0
 have hj2:Jn S'.a Y:=by rw [hSa];exact hj
 have hSb':S'.b=b:=hSb
 obtain ⟨D,hD⟩: ∃D,dumpL S'.a=D:=⟨_,rfl⟩
 refine z_aa [] (R:=fun v Fs=>v= .string (mkS D)/\Fs=[]) (fun β w' hs=>by
  have h:=z_xJ w' S' hj2 hp ((hs.asRo 0 rfl).mem.take (js:=[0,1,2,6]) rfl)
  rw [hD,hSb'] at h
  exact h) ?_
 rintro v Fs ⟨rfl,rfl⟩
 refine BIf.not (BIf.dec (fun h6=>?_) (fun h6=>?_))
 ·have h60:D=T:=mkS1 h6
  have hok:OkP (bodyT T):=by
   refine ⟨x,hrun0,?_⟩
   rw [<-hSa]
   have e:catL (bodyA S'.a)++sumL (catL (bodyA S'.a))=bodyT T++sealT T:=by rw [hbs];exact hD.trans h60
   exact (List.append_inj' e (by rw [z_cY,hsl])).1
  refine z_ao g ?_
  refine z_eT g ?_
  intro β w' hs
  exact hs.fin [0] ⟨0,.inr ⟨by omega,.inr ⟨hTl,.inr ⟨hS,.inr ⟨h50,.inr ⟨hok,rfl⟩⟩⟩⟩⟩,.inr ⟨rfl,S',Y,hj2,hp,hD.trans h60,by rw [hSb'];rfl,rfl⟩⟩
 ·have h60: ¬D=T:=fun e=>h6 (congrArg mkS e)
  intro β w' hs
  refine (hs.keepB (List.nil_sublist _)).fin [] ⟨4,hbad (fun ⟨x',hx',hc⟩=>h60 ?_),.inl ⟨by decide,rfl,rfl⟩⟩
  obtain rfl:=Run.one StepP.one _ 0 _ _ _ hrun0 hx'
  rw [<-hD,<-hbs,<-h50,<-hc,<-hSa]
  rfl
theorem z_pi {cx:Cx} {β:Va} {n:Nat} {H:List Bk} {w:World} (R:RS) (c:Crd) (hs:Sat cx β n H [csF [c],rsF R] w) (hrc:c.roles.length<=c.rc) (hw:R.Wf) (ht:c.tenant.size<=100000) (hu:c.user.size<=100000) (hrs: ∀r∈c.roles,r.size<=100000) (hrl:c.roles.length<=100000):
  Con Tryz.prog z_b5 #[ptr R.b,.agg c.vs.toArray] w [csF [c],rsF R] (rsOut R (loadR R.a c.a)):=by
 have h2:=hs.rsPool2
 have hR:RS.Wf {R with ps:=secF c.sec.x c.sec.a::rdF 1 c.rA c.roles.length (strs c.roles)::R.ps}:=(hw.pool _).pool _
 refine ((z_xa w {R with ps:=secF c.sec.x c.sec.a::rdF 1 c.rA c.roles.length (strs c.roles)::R.ps} c ⟨List.mem_cons_self,List.mem_cons_of_mem _ List.mem_cons_self,hrc⟩ hR ht hu hrs hrl (h2.mem.take (js:=[0]) rfl)).gs z_sY).mono fun v Fs h=>?_
 obtain ⟨R',h1,h2,h3,h4,h5,h6,h7,h8⟩:=h
 exact ⟨R',h1,h2,h3,h4,h5,h6,fun f hf=>h7 f (List.mem_cons_of_mem _ (List.mem_cons_of_mem _ hf)),h8⟩
def OkT (T:List UInt8) (y:GS):Prop:=2<=(lnL T).length/\Run StepR 0 ((lnL T).take ((lnL T).length - 1)) gs0 y/\dumpR y.Y=T
def RLoadOut (T:List UInt8) (v:Value) (Fs:List Fact):Prop:=
 (∃R:RS,(∃y,OkT T y)/\v=ptr R.b/\Fs=[rsF R])\/((∀y,¬OkT T y)/\v= .pointer none/\Fs=[])
structure RowV where
 A:Option Addr
 x:List UInt8
 c:Nat
structure ULI where
 k:Nat
 a:RowV
 b:RowV
 s:RowV
 h:RowV
structure ULI.Ok (w5 w6 w7 w8:List UInt8) (u:ULI):Prop where
 k:5<=u.k/\u.k<=9
 a:5<u.k->decP w5=some u.a.x
 b:6<u.k->decP w6=some u.b.x
 s:7<u.k->decP w7=some u.s.x
 h:8<u.k->decP w8=some u.h.x
 ac:u.a.x.length<=u.a.c
 bc:u.b.x.length<=u.b.c
 sc:u.s.x.length<=u.s.c
 hc:u.h.x.length<=u.h.c
structure RLI where
 i:Nat
 R:RS
 t:List UInt8
structure RLI.Ok (L:List (List UInt8)) (b:Nat) (j:RLI):Prop where
 i:j.i<=L.length
 run:Run StepR 0 (L.take j.i) gs0 ⟨j.R.a,j.t⟩
 jn: ∃X:ASto,Jn X j.R.a
 b:j.R.b=b
 tc:j.R.ts.length<=j.R.tc
 lc:j.R.cs.length<=j.R.lc
 mem: ∀c∈j.R.cs,inP j.R.ps c
 t:j.t.length<=100000
theorem RLI.Ok.wf {L:List (List UInt8)} {b:Nat} {j:RLI} (h:j.Ok L b):j.R.Wf:=by
 obtain ⟨X,hX⟩:=h.jn
 exact hX.rsWf h.tc h.lc h.mem
set_option maxHeartbeats 2000000 in
theorem z_vC (w:World) (T:List UInt8) (hT:T.length<=99999) (hm:Mem w [oddF 1]):Con Tryz.prog z_eE #[.string (mkS T)] w [] (RLoadOut T):=by
 have g:=z_g5 w (Un [])
 have hml:=maxLen_eq
 refine z_lp (cx:=z_dA w (Un [])) g z_jt [.c (.v (.string (mkS T)))] [oddF 1] hm ?_
 refine z_ao g ?_
 refine z_ao g ?_
 refine z_pW 0 (fun b=>(rs0 b).vs) rfl rfl (fun b=>rfl) (fun b=>?_)
 refine z_s5 (F':=[rsF (rs0 b),oddF 1]) (fun β w' hs=>hs.rs0) ?_
 refine z_ao g ?_
 refine z_ao g ?_
 refine z_aa [] (fun β w' hs=>z_vO w' T (by omega)) ?_
 rintro v Fs ⟨ad,c,Xf,rfl,hXo,hXp,hXc,rfl⟩
 obtain ⟨LL,hLL⟩: ∃LL,lnL T=LL:=⟨_,rfl⟩
 have hOk: ∀y,OkT T y↔(2<=LL.length/\Run StepR 0 (LL.take (LL.length - 1)) gs0 y/\dumpR y.Y=T):=fun y=>by unfold OkT;rw [hLL]
 have hlle: ∀x∈LL,x.length<=99999:=fun x hx=>by
  rw [<-hLL] at hx
  exact Nat.le_trans (z_wL hx) hT
 have hlll:LL.length<=100001:=by
  rw [<-hLL]
  have:=z_j9 10 T
  unfold lnL
  split
  ·rw [List.length_dropLast];omega
  ·omega
 rw [hLL] at hXc hXp ⊢
 refine z_ao g ?_
 refine BIf.dec (fun h2=>?_) (fun h2=>?_)
 ·have h20:(LL.length:Int)<2:=h2
  intro β w' hs
  exact (hs.keepB (List.nil_sublist _)).fin [] (.inr ⟨fun y hy=>by have:=((hOk y).1 hy).1;omega,rfl,rfl⟩)
 have h20: ¬(LL.length:Int)<2:=h2
 obtain ⟨L,hL⟩: ∃L,LL.take (LL.length - 1)=L:=⟨_,rfl⟩
 have hLn:L.length=LL.length - 1:=by rw [<-hL,List.length_take];omega
 have hLm: ∀x∈L,x.length<=99999:=fun x hx=>hlle x (by rw [<-hL] at hx;exact List.mem_of_mem_take hx)
 have hrd: ∀w,Xf.p w->Rd 1 (some ad) L.length (L.map fun x=>Value.string (mkS x)) w:=fun w hp=>by
  have h:=Rd.pre1 (hXp w hp) L.length (by omega)
  rw [hLn,<-hL,List.map_take]
  rw [hLn] at h
  exact h
 have hOk2: ∀y,OkT T y↔(Run StepR 0 L gs0 y/\dumpR y.Y=T):=fun y=>by rw [hOk,hL];exact ⟨fun h=>h.2,fun h=>⟨by omega,h⟩⟩
 refine z_ao g ?_
 refine ⟨((LL.length - 1:Nat):Int),by rw [wrap_i64 (by omega) (by omega)];omega,?_⟩
 refine ⟨c,LL.length - 1,0,LL.length - 1,c,_,rfl,rfl,rfl,by omega,by omega,by omega,rfl,rfl,rfl,?_⟩
 rw [<-hLn]
 refine z_ai (ι:=RLI) 1 (fun j=>[(0,.c (.v (.string (mkS T)))),(2,.c (.v (.pointer none))),(3,.c (.v (ptr b))),(4,.c (.v (.string (mkS j.t)))),(32,.c (.v (.slice (some ad) L.length c))),(33,.c (.v (.int .i64 (L.length:Int)))),(34,.c (.v (.int .i64 (j.i:Int))))]) (fun _=>[]) (fun j=>[rsF j.R,Xf,oddF 1])
  (fun j=>j.Ok L b) (fun j=>L.length - j.i) ⟨0,rs0 b,[]⟩ ⟨Nat.zero_le _,rfl,⟨⟨[],0,0⟩,fg0.j⟩,rfl,Nat.le_refl _,Nat.le_refl _,fun c hc=>(by cases hc),Nat.zero_le _⟩ (Ent.mk' ⟨rfl,rfl,rfl,rfl,by simp [cutA,Addr.add];rfl,rfl,rfl,trivial⟩ rfl (fun β w' hs=>hs.perm [1,0,2])) g ?_
 rintro ⟨i,R,t⟩ hok
 have hw:=hok.wf
 obtain ⟨hi,hrun,⟨X,hX⟩,hb,htc,hlc,hmem,ht⟩:=hok
 simp only at hi hrun hX hb htc hlc hmem ht hw
 refine BIf.dec (fun hlt=>?_) (fun hge=>?_)
 ·have hlt0:(i:Int)<L.length:=hlt
  obtain ⟨x,hx,hxm⟩:=at_lt (show i<L.length by omega)
  have hxl:=hLm x hxm
  have hsp:=z_oY hx
  have hil:(L.take i).length=i:=by rw [List.length_take];omega
  have hstop:(∀m,¬StepR i x ⟨R.a,t⟩ m)-> ∀y,¬OkT T y:=fun hn y hy=>by
   have h:=((hOk2 y).1 hy).1
   rw [hsp] at h
   exact Run.no StepR.one hrun (by rw [hil];exact hn) y h
  have hgo: ∀(R2:RS) (t2:List UInt8),StepR i x ⟨R.a,t⟩ ⟨R2.a,t2⟩->(∃X,Jn X R2.a)->R2.b=R.b->R2.ts.length<=R2.tc->R2.cs.length<=R2.lc->(∀c∈R2.cs,inP R2.ps c)->t2.length<=100000->RLI.Ok L b ⟨i+1,R2,t2⟩:=fun R2 t2 h1 h2 h3 h4 h5 h6 h7=>by
   refine ⟨by show i+1<=L.length;omega,?_,h2,h3.trans hb,h4,h5,h6,h7⟩
   show Run StepR 0 (L.take (i+1)) gs0 _
   rw [List.take_add_one,hx]
   exact hrun.snoc (by rw [hil];exact h1)
  refine ⟨_,i,rfl,rfl,by omega,?_⟩
  refine ⟨.string (mkS x),fun β w' hs=>Rd.cell1 (hrd _ (hs.get 1 rfl)) (by simp [hx]),?_⟩
  refine z_aa [] (fun β w' hs=>z_oJ w' x 32 (by omega)) ?_
  rintro v Fs ⟨ad2,c2,rfl,hc2,rfl⟩
  obtain ⟨W,hW⟩: ∃W,splL 32 x=W:=⟨_,rfl⟩
  have hWl: ∀y∈W,y.length<=100000:=fun y hy=>by
   rw [<-hW] at hy
   exact Nat.le_trans (z_mH y hy) (by omega)
  have hst: ∀m,StepR i x ⟨R.a,t⟩ m↔((i=0/\W.length=2/\(∃n,nR (W.getD 1 []) n/\raiseTR R.a n=(0,m.Y))/\m.t=t)\/(i≠0/\W.length=2/\addTR R.a (mkS (W.getD 1 []))=(0,m.Y)/\m.t=W.getD 1 [])\/(i≠0/\W.length≠2/\t≠[]/\(∃c,Par nR (mkS t) W c/\loadR R.a c=(0,m.Y))/\m.t=t)):=fun m=>by rw [<-hW];exact Iff.rfl
  rw [hW] at hc2 ⊢
  refine BIf.dec (fun hi0=>?_) (fun hi0=>?_)
  ·have hi00:(i:Int)=0:=hi0
   refine BIf.not (BIf.dec (fun hw2=>?_) (fun hw2=>?_))
   rotate_left
   ·have hw20: ¬(W.length:Int)=2:=hw2
    intro β w' hs
    refine (hs.keepB (List.nil_sublist _)).fin [] (.inr ⟨hstop fun m q=>?_,rfl,rfl⟩)
    rcases (hst m).1 q with ⟨_,q,_⟩ | ⟨q,_⟩ | ⟨q,_⟩
    ·exact hw20 (by rw [q];rfl)
    ·exact q (by omega)
    ·exact q (by omega)
   have hw20:(W.length:Int)=2:=hw2
   obtain ⟨w0,w1,rfl⟩: ∃a b,W=[a,b]:=⟨_,_,z_wv (by omega)⟩
   refine ⟨_,1,rfl,rfl,by omega,?_⟩
   refine ⟨.string (mkS w1),fun β w' hs=>Rd.cell1 (z_an (hs.get 0 rfl)) rfl,?_⟩
   refine z_aa [] (fun β w' hs=>z_nG w' w1 (Nat.le_trans (hWl w1 (by simp)) (by decide))) ?_
   rintro v Fs ⟨⟨n,nb,rfl,hn⟩,rfl⟩
   cases nb with
   | false=>
    intro β w' hs
    refine (hs.keepB (List.nil_sublist _)).fin [] (.inr ⟨hstop fun m q=>?_,rfl,rfl⟩)
    rcases (hst m).1 q with ⟨_,_,⟨n2,q,_⟩,_⟩ | ⟨q,_⟩ | ⟨q,_⟩
    ·rcases hn with ⟨k,_⟩ | ⟨_,k⟩
     ·cases k
     ·rw [show rnum w1=some n2 from q] at k;cases k
    ·exact q (by omega)
    ·exact q (by omega)
   | true=>
   have hn1:rnum w1=some n:=by
    rcases hn with ⟨_,k⟩ | ⟨k,_⟩
    ·exact k
    ·cases k
   obtain ⟨rc,rY,hr⟩: ∃rc rY,raiseTR R.a n=(rc,rY):=⟨_,_,rfl⟩
   refine z_aa [1] (R:=rsOut R (rc,rY)) (fun β w' hs=>by
    have h:=z_wg w' R n hw (hs.mem.take (js:=[1]) rfl)
    rw [hb,hr] at h
    exact h) ?_
   rintro v Fs ⟨R2,rfl,k2,k3,k4,k5,k6,k7,rfl⟩
   simp only at k2
   refine BIf.not (BIf.dec (fun h4=>?_) (fun h4=>?_))
   rotate_left
   ·have h40: ¬rc=0:=h4
    intro β w' hs
    refine (hs.keepB (List.nil_sublist _)).fin [] (.inr ⟨hstop fun m q=>?_,rfl,rfl⟩)
    rcases (hst m).1 q with ⟨_,_,⟨n2,q,q2⟩,_⟩ | ⟨q,_⟩ | ⟨q,_⟩
    ·obtain rfl:=z_n9 _ _ _ q hn1
     rw [hr] at q2
     injection q2 with q4 _
     exact h40 q4
    ·exact q (by omega)
    ·exact q (by omega)
   have h40:rc=0:=h4
   subst h40
   refine ⟨((i+1:Nat):Int),by rw [wrap_i64 (by omega) (by omega)];rfl,?_⟩
   have hj2:=(hX.raise n).2
   rw [hr] at hj2
   exact ⟨⟨i+1,R2,t⟩,hgo R2 t ((hst _).2 (.inl ⟨by omega,rfl,⟨n,hn1,by rw [hr,k2]⟩,rfl⟩)) ⟨_,by rw [k2];exact hj2⟩ k3 k4 k5 k6 ht,by show L.length - (i+1)<L.length - i;omega,Ent.mk' ⟨rfl,rfl,rfl,rfl,rfl,rfl,rfl,trivial⟩ rfl (fun β w' hs=>hs.perm [0,2,3])⟩
  have hi00: ¬(i:Int)=0:=hi0
  refine BIf.dec (fun hw2=>?_) (fun hw2=>?_)
  ·have hw20:(W.length:Int)=2:=hw2
   obtain ⟨w0,w1,rfl⟩: ∃a b,W=[a,b]:=⟨_,_,z_wv (by omega)⟩
   have hw1:=hWl w1 (by simp)
   refine ⟨_,1,rfl,rfl,by omega,?_⟩
   refine ⟨.string (mkS w1),fun β w' hs=>Rd.cell1 (z_an (hs.get 0 rfl)) rfl,?_⟩
   obtain ⟨rc,rY,hr⟩: ∃rc rY,addTR R.a (mkS w1)=(rc,rY):=⟨_,_,rfl⟩
   refine z_aa [1] (R:=rsOut R (rc,rY)) (fun β w' hs=>by
    have h:=z_sV w' R (mkS w1) hw (by show w1.length<=_;omega) (hs.mem.take (js:=[1]) rfl)
    rw [hb,hr] at h
    exact h) ?_
   rintro v Fs ⟨R2,rfl,k2,k3,k4,k5,k6,k7,rfl⟩
   simp only at k2
   refine BIf.not (BIf.dec (fun h4=>?_) (fun h4=>?_))
   rotate_left
   ·have h40: ¬rc=0:=h4
    intro β w' hs
    refine (hs.keepB (List.nil_sublist _)).fin [] (.inr ⟨hstop fun m q=>?_,rfl,rfl⟩)
    rcases (hst m).1 q with ⟨q,_⟩ | ⟨_,_,q,_⟩ | ⟨_,q,_⟩
    ·omega
    ·have q2:addTR R.a (mkS w1)=(0,m.Y):=q
     rw [hr] at q2
     injection q2 with q4 _
     exact h40 q4
    ·exact q rfl
   have h40:rc=0:=h4
   subst h40
   refine ⟨((i+1:Nat):Int),by rw [wrap_i64 (by omega) (by omega)];rfl,?_⟩
   have hj2:=(hX.addT (mkS w1)).2
   rw [hr] at hj2
   exact ⟨⟨i+1,R2,w1⟩,hgo R2 w1 ((hst _).2 (.inr (.inl ⟨by omega,rfl,by rw [k2];exact hr,rfl⟩))) ⟨_,by rw [k2];exact hj2⟩ k3 k4 k5 k6 hw1,by show L.length - (i+1)<L.length - i;omega,Ent.mk' ⟨rfl,rfl,rfl,rfl,rfl,rfl,rfl,trivial⟩ rfl (fun β w' hs=>hs.perm [0,2,3])⟩
  have hw20: ¬(W.length:Int)=2:=hw2
  have hstU: ∀m,StepR i x ⟨R.a,t⟩ m->t≠[]/\ ∃c,Par nR (mkS t) W c/\loadR R.a c=(0,m.Y):=fun m q=>by
   rcases (hst m).1 q with ⟨q,_⟩ | ⟨_,q,_⟩ | ⟨_,_,q1,q2,_⟩
   ·omega
   ·omega
   ·exact ⟨q1,q2⟩
  refine BIf.not (BIf.dec (fun h10=>?_) (fun h10=>?_))
  rotate_left
  ·have h100: ¬(W.length:Int)=10:=h10
   intro β w' hs
   refine (hs.keepB (List.nil_sublist _)).fin [] (.inr ⟨hstop fun m q=>?_,rfl,rfl⟩)
   rcases hstU m q with ⟨ht0,c,hp,hl⟩
   exact h100 (by rw [hp.n];rfl)
  have h100:(W.length:Int)=10:=h10
  obtain ⟨w0,w1,w2,w3,w4,w5,w6,w7,w8,w9,rfl⟩:=z_wB (show W.length=10 by omega)
  refine BIf.dec (fun ht0=>?_) (fun ht0=>?_)
  ·have ht00:t=[]:=mkS1 (show mkS t=mkS [] from ht0)
   intro β w' hs
   refine (hs.keepB (List.nil_sublist _)).fin [] (.inr ⟨hstop fun m q=>?_,rfl,rfl⟩)
   rcases hstU m q with ⟨ht0,c,hp,hl⟩
   exact ht0 ht00
  have ht00:t≠[]:=fun e=>ht0 (congrArg mkS e)
  refine ⟨_,3,rfl,rfl,by omega,?_⟩
  refine ⟨.string (mkS w3),fun β w' hs=>Rd.cell1 (z_an (hs.get 0 rfl)) rfl,?_⟩
  refine ⟨_,1,rfl,rfl,by omega,?_⟩
  refine ⟨.string (mkS w1),fun β w' hs=>Rd.cell1 (z_an (hs.get 0 rfl)) rfl,?_⟩
  refine z_aa [] (fun β w' hs=>z_rk w' w1 (Nat.le_trans (hWl w1 (by simp)) (by decide))) ?_
  rintro v Fs ⟨A1,nm,c1,e,rfl,hnm,hc1,rfl⟩
  refine ⟨_,fun β w' hs=>z_an (hs.get 0 rfl),?_⟩
  refine ⟨_,2,rfl,rfl,by omega,?_⟩
  refine ⟨.string (mkS w2),fun β w' hs=>Rd.cell1 (z_an (hs.get 1 rfl)) rfl,?_⟩
  refine z_aa [] (fun β w' hs=>z_nG w' w2 (Nat.le_trans (hWl w2 (by simp)) (by decide))) ?_
  rintro v Fs ⟨⟨gn,ob,rfl,hgn⟩,rfl⟩
  refine ⟨_,4,rfl,rfl,by omega,?_⟩
  refine ⟨.string (mkS w4),fun β w' hs=>Rd.cell1 (z_an (hs.get 1 rfl)) rfl,?_⟩
  refine z_aa [] (fun β w' hs=>z_nG w' w4 (Nat.le_trans (hWl w4 (by simp)) (by decide))) ?_
  rintro v Fs ⟨⟨rn,ib,rfl,hrn⟩,rfl⟩
  refine BIf.not (BIf.dec (fun he=>?_) (fun he=>?_))
  rotate_left
  ·have he0: ¬e=0:=he
   intro β w' hs
   refine (hs.keepB (List.nil_sublist _)).fin [] (.inr ⟨hstop fun m q=>?_,rfl,rfl⟩)
   rcases hstU m q with ⟨ht0,c,hp,hl⟩
   rcases hnm with ⟨k,_⟩ | ⟨_,k⟩
   ·exact he0 k
   ·rw [show unhexA w1=some _ from hp.u] at k;cases k
  have he0:e=0:=he
  have hnm1:unhexA w1=some nm:=by
   rcases hnm with ⟨_,k⟩ | ⟨k,_⟩
   ·exact k
   ·exact absurd he0 k
  cases ob with
  | false=>
   intro β w' hs
   refine (hs.keepB (List.nil_sublist _)).fin [] (.inr ⟨hstop fun m q=>?_,rfl,rfl⟩)
   rcases hstU m q with ⟨ht0,c,hp,hl⟩
   rcases hgn with ⟨k,_⟩ | ⟨_,k⟩
   ·cases k
   ·rw [show rnum w2=some c.gen from hp.g] at k;cases k
  | true=>
  have hgn1:rnum w2=some gn:=by
   rcases hgn with ⟨_,k⟩ | ⟨k,_⟩
   ·exact k
   ·cases k
  cases ib with
  | false=>
   intro β w' hs
   refine (hs.keepB (List.nil_sublist _)).fin [] (.inr ⟨hstop fun m q=>?_,rfl,rfl⟩)
   rcases hstU m q with ⟨ht0,c,hp,hl⟩
   obtain ⟨r,k1,_⟩:=hp.i
   rcases hrn with ⟨k,_⟩ | ⟨_,k⟩
   ·cases k
   ·rw [show rnum w4=some r from k1] at k;cases k
  | true=>
  have hrn1:rnum w4=some rn:=by
   rcases hrn with ⟨_,k⟩ | ⟨k,_⟩
   ·exact k
   ·cases k
  refine BIf.dec (fun hr=>?_) (fun hr=>?_)
  ·have hr0:(64:Int)<(rn:Int):=hr
   intro β w' hs
   refine (hs.keepB (List.nil_sublist _)).fin [] (.inr ⟨hstop fun m q=>?_,rfl,rfl⟩)
   rcases hstU m q with ⟨ht0,c,hp,hl⟩
   obtain ⟨r,k1,k2,_⟩:=hp.i
   have k3:=z_n9 _ _ _ k1 hrn1
   omega
  have hr0: ¬(64:Int)<(rn:Int):=hr
  refine ⟨(rn:Int),wrap_i64 (by omega) (by omega),?_⟩
  refine z_ai (ι:=ULI) 2 (fun u=>[(0,.c (.v (.string (mkS T)))),(2,.c (.v (.pointer none))),(3,.c (.v (ptr b))),(4,.c (.v (.string (mkS t)))),(8,.c (.v (.slice (some ad2) 10 c2))),(11,.c (.p 1 0)),(18,.c (.v (.int .i64 (u.k:Int)))),(32,.c (.v (.slice (some ad) L.length c))),(33,.c (.v (.int .i64 (L.length:Int)))),(34,.c (.v (.int .i64 (i:Int))))]) (fun u=>[⟨1,z_af,CrdV.ss ⟨mkS t,mkS nm,⟨u.a.A,u.a.x.length,u.a.c,(rn:Int),u.b.A,u.b.x.length,u.b.c,u.s.A,u.s.x.length,u.s.c,u.h.A,u.h.x.length,u.h.c⟩,gn,none,0,0,decide (mkS w3=mkS offW)⟩⟩]) (fun u=>[browF z_ab u.h.A u.h.x u.h.c,browF z_ab u.s.A u.s.x u.s.c,browF z_ab u.b.A u.b.x u.b.c,browF z_ab u.a.A u.a.x u.a.c,prowF (some ad2) [w0,w1,w2,w3,w4,w5,w6,w7,w8,w9] c2,rsF R,Xf,oddF 1])
   (fun u=>u.Ok w5 w6 w7 w8) (fun u=>9 - u.k) ⟨5,⟨none,[],0⟩,⟨none,[],0⟩,⟨none,[],0⟩,⟨none,[],0⟩⟩ ⟨⟨by decide,by decide⟩,fun q=>absurd q (by show¬5<5;decide),fun q=>absurd q (by show¬6<5;decide),fun q=>absurd q (by show¬7<5;decide),fun q=>absurd q (by show¬8<5;decide),Nat.le_refl _,Nat.le_refl _,Nat.le_refl _,Nat.le_refl _⟩ (Ent.mk' ⟨rfl,rfl,rfl,rfl,rfl,rfl,rfl,rfl,rfl,rfl,trivial⟩ rfl (fun β w' hs=>Eq.mp (by kernel_rfl) (((((hs.nilRow z_ab 1).nilRow z_ab 1).nilRow z_ab 1).nilRow z_ab 1).perm [0,1,2,3,5,6,7,8]))) g ?_
  rintro ⟨k,ua,ub,us,uh⟩ hok
  refine BIf.dec (fun hk8=>?_) (fun hk8=>?_)
  ·have hk80:(k:Int)<=8:=hk8
   have hk5:5<=k:=hok.k.1
   have hkk:k=5\/k=6\/k=7\/k=8:=by omega
   rcases hkk with rfl | rfl | rfl | rfl
   ·refine ⟨_,5,rfl,rfl,by omega,?_⟩
    refine ⟨.string (mkS w5),fun β w' hs=>Rd.cell1 (z_an (hs.get 4 rfl)) rfl,?_⟩
    refine z_aa [] (fun β w' hs=>z_kZ w' w5 false (Nat.le_trans (hWl w5 (by simp)) (by decide))) ?_
    rintro v Fs ⟨A9,x9,c9,e9,rfl,hx9,hc9,rfl⟩
    refine BIf.not (BIf.dec (fun h9=>?_) (fun h9=>?_))
    rotate_left
    ·have h90: ¬e9=0:=h9
     intro β w' hs
     refine (hs.keepB (List.nil_sublist _)).fin [] (.inr ⟨hstop fun m q=>?_,rfl,rfl⟩)
     rcases hstU m q with ⟨ht0,c,hp,hl⟩
     rcases hx9 with ⟨k,_⟩ | ⟨_,k⟩
     ·exact h90 k
     ·rw [show decX false w5=some _ from hp.a] at k;cases k
    have h90:e9=0:=h9
    have hd9:decP w5=some x9:=by
     rcases hx9 with ⟨_,k⟩ | ⟨k,_⟩
     ·exact k
     ·exact absurd h90 k
    refine ⟨((6:Nat):Int),by show IntKind.i64.wrap ((5:Int)+1)=6;decide,?_⟩
    exact ⟨⟨6,⟨A9,x9,c9⟩,ub,us,uh⟩,⟨⟨by show 5<=6;decide,by show 6<=9;decide⟩,(fun _=>hd9),(fun q=>absurd q (by show¬6<6;decide)),(fun q=>absurd q (by show¬7<6;decide)),(fun q=>absurd q (by show¬8<6;decide)),hc9,hok.bc,hok.sc,hok.hc⟩,by show 9 - 6<9 - 5;decide,Ent.mk' ⟨rfl,rfl,rfl,rfl,rfl,rfl,rfl,rfl,rfl,rfl,trivial⟩ rfl (fun β w' hs=>Eq.mp (by kernel_rfl) (hs.perm [1,2,3,0,5,6,7,8]))⟩
   ·refine ⟨_,6,rfl,rfl,by omega,?_⟩
    refine ⟨.string (mkS w6),fun β w' hs=>Rd.cell1 (z_an (hs.get 4 rfl)) rfl,?_⟩
    refine z_aa [] (fun β w' hs=>z_kZ w' w6 false (Nat.le_trans (hWl w6 (by simp)) (by decide))) ?_
    rintro v Fs ⟨A9,x9,c9,e9,rfl,hx9,hc9,rfl⟩
    refine BIf.not (BIf.dec (fun h9=>?_) (fun h9=>?_))
    rotate_left
    ·have h90: ¬e9=0:=h9
     intro β w' hs
     refine (hs.keepB (List.nil_sublist _)).fin [] (.inr ⟨hstop fun m q=>?_,rfl,rfl⟩)
     rcases hstU m q with ⟨ht0,c,hp,hl⟩
     rcases hx9 with ⟨k,_⟩ | ⟨_,k⟩
     ·exact h90 k
     ·rw [show decX false w6=some _ from hp.b] at k;cases k
    have h90:e9=0:=h9
    have hd9:decP w6=some x9:=by
     rcases hx9 with ⟨_,k⟩ | ⟨k,_⟩
     ·exact k
     ·exact absurd h90 k
    refine ⟨((7:Nat):Int),by show IntKind.i64.wrap ((6:Int)+1)=7;decide,?_⟩
    exact ⟨⟨7,ua,⟨A9,x9,c9⟩,us,uh⟩,⟨⟨by show 5<=7;decide,by show 7<=9;decide⟩,(fun _=>hok.a (by show 5<6;decide)),(fun _=>hd9),(fun q=>absurd q (by show¬7<7;decide)),(fun q=>absurd q (by show¬8<7;decide)),hok.ac,hc9,hok.sc,hok.hc⟩,by show 9 - 7<9 - 6;decide,Ent.mk' ⟨rfl,rfl,rfl,rfl,rfl,rfl,rfl,rfl,rfl,rfl,trivial⟩ rfl (fun β w' hs=>Eq.mp (by kernel_rfl) (hs.perm [1,2,0,4,5,6,7,8]))⟩
   ·refine ⟨_,7,rfl,rfl,by omega,?_⟩
    refine ⟨.string (mkS w7),fun β w' hs=>Rd.cell1 (z_an (hs.get 4 rfl)) rfl,?_⟩
    refine z_aa [] (fun β w' hs=>z_kZ w' w7 false (Nat.le_trans (hWl w7 (by simp)) (by decide))) ?_
    rintro v Fs ⟨A9,x9,c9,e9,rfl,hx9,hc9,rfl⟩
    refine BIf.not (BIf.dec (fun h9=>?_) (fun h9=>?_))
    rotate_left
    ·have h90: ¬e9=0:=h9
     intro β w' hs
     refine (hs.keepB (List.nil_sublist _)).fin [] (.inr ⟨hstop fun m q=>?_,rfl,rfl⟩)
     rcases hstU m q with ⟨ht0,c,hp,hl⟩
     rcases hx9 with ⟨k,_⟩ | ⟨_,k⟩
     ·exact h90 k
     ·rw [show decX false w7=some _ from hp.s] at k;cases k
    have h90:e9=0:=h9
    have hd9:decP w7=some x9:=by
     rcases hx9 with ⟨_,k⟩ | ⟨k,_⟩
     ·exact k
     ·exact absurd h90 k
    refine ⟨((8:Nat):Int),by show IntKind.i64.wrap ((7:Int)+1)=8;decide,?_⟩
    exact ⟨⟨8,ua,ub,⟨A9,x9,c9⟩,uh⟩,⟨⟨by show 5<=8;decide,by show 8<=9;decide⟩,(fun _=>hok.a (by show 5<7;decide)),(fun _=>hok.b (by show 6<7;decide)),(fun _=>hd9),(fun q=>absurd q (by show¬8<8;decide)),hok.ac,hok.bc,hc9,hok.hc⟩,by show 9 - 8<9 - 7;decide,Ent.mk' ⟨rfl,rfl,rfl,rfl,rfl,rfl,rfl,rfl,rfl,rfl,trivial⟩ rfl (fun β w' hs=>Eq.mp (by kernel_rfl) (hs.perm [1,0,3,4,5,6,7,8]))⟩
   ·refine ⟨_,8,rfl,rfl,by omega,?_⟩
    refine ⟨.string (mkS w8),fun β w' hs=>Rd.cell1 (z_an (hs.get 4 rfl)) rfl,?_⟩
    refine z_aa [] (fun β w' hs=>z_kZ w' w8 false (Nat.le_trans (hWl w8 (by simp)) (by decide))) ?_
    rintro v Fs ⟨A9,x9,c9,e9,rfl,hx9,hc9,rfl⟩
    refine BIf.not (BIf.dec (fun h9=>?_) (fun h9=>?_))
    rotate_left
    ·have h90: ¬e9=0:=h9
     intro β w' hs
     refine (hs.keepB (List.nil_sublist _)).fin [] (.inr ⟨hstop fun m q=>?_,rfl,rfl⟩)
     rcases hstU m q with ⟨ht0,c,hp,hl⟩
     rcases hx9 with ⟨k,_⟩ | ⟨_,k⟩
     ·exact h90 k
     ·rw [show decX false w8=some _ from hp.h] at k;cases k
    have h90:e9=0:=h9
    have hd9:decP w8=some x9:=by
     rcases hx9 with ⟨_,k⟩ | ⟨k,_⟩
     ·exact k
     ·exact absurd h90 k
    refine ⟨((9:Nat):Int),by show IntKind.i64.wrap ((8:Int)+1)=9;decide,?_⟩
    exact ⟨⟨9,ua,ub,us,⟨A9,x9,c9⟩⟩,⟨⟨by show 5<=9;decide,by show 9<=9;decide⟩,(fun _=>hok.a (by show 5<8;decide)),(fun _=>hok.b (by show 6<8;decide)),(fun _=>hok.s (by show 7<8;decide)),(fun _=>hd9),hok.ac,hok.bc,hok.sc,hc9⟩,by show 9 - 9<9 - 8;decide,Ent.mk' ⟨rfl,rfl,rfl,rfl,rfl,rfl,rfl,rfl,rfl,rfl,trivial⟩ rfl (fun β w' hs=>Eq.mp (by kernel_rfl) (hs.perm [0,2,3,4,5,6,7,8]))⟩
  ·have hk80: ¬(k:Int)<=8:=hk8
   obtain rfl:k=9:=by have:k<=9:=hok.k.2;omega
   have hxl2:x.length<=99999:=hxl
   have hall: ∀rA rk roles,roles=rolS w9->Par nR (mkS t) [w0,w1,w2,w3,w4,w5,w6,w7,w8,w9] (Crd.a ⟨0,mkS t,mkS nm,⟨⟨ua.A,ua.c,ua.x,hok.ac⟩,(rn:Int),⟨ub.A,ub.c,ub.x,hok.bc⟩,⟨us.A,us.c,us.x,hok.sc⟩,⟨uh.A,uh.c,uh.x,hok.hc⟩⟩,gn,rA,rk,roles,decide (mkS w3=mkS offW)⟩):=fun rA rk roles hr9=>by
    refine ⟨rfl,rfl,?_,hgn1,⟨rn,hrn1,by omega,rfl⟩,hok.a (by show 5<9;decide),hok.b (by show 6<9;decide),hok.s (by show 7<9;decide),hok.h (by show 8<9;decide),hr9,?_⟩
    ·show unhexA w1=some (mkS nm).data.toList
     rw [mkSo]
     exact hnm1
    ·show decide (mkS w3=mkS offW)=decide (w3=offW)
     exact decide_eq_decide.2 ⟨fun q=>mkS1 q,fun q=>congrArg mkS q⟩
   refine ⟨_,9,rfl,rfl,by omega,?_⟩
   refine ⟨.string (mkS w9),fun β w' hs=>Rd.cell1 (z_an (hs.get 4 rfl)) rfl,?_⟩
   refine BIf.not (BIf.dec (fun h9=>?_) (fun h9=>?_))
   ·have h90:w9=[45]:=mkS1 h9
    have hpar:Par nR (mkS t) [w0,w1,w2,w3,w4,w5,w6,w7,w8,w9] (Crd.a ⟨0,mkS t,mkS nm,⟨⟨ua.A,ua.c,ua.x,hok.ac⟩,(rn:Int),⟨ub.A,ub.c,ub.x,hok.bc⟩,⟨us.A,us.c,us.x,hok.sc⟩,⟨uh.A,uh.c,uh.x,hok.hc⟩⟩,gn,none,0,[],decide (mkS w3=mkS offW)⟩):=hall _ _ _ (by rw [h90];rfl)
    have hcz:=Par.sz (l:=x) (by rw [hW];exact hpar) hxl2
    obtain ⟨rc,rY,hr⟩: ∃rc rY,loadR R.a (Crd.a ⟨0,mkS t,mkS nm,⟨⟨ua.A,ua.c,ua.x,hok.ac⟩,(rn:Int),⟨ub.A,ub.c,ub.x,hok.bc⟩,⟨us.A,us.c,us.x,hok.sc⟩,⟨uh.A,uh.c,uh.x,hok.hc⟩⟩,gn,none,0,[],decide (mkS w3=mkS offW)⟩)=(rc,rY):=⟨_,_,rfl⟩
    refine z_aa [0,1,2,3,5] (R:=rsOut R (rc,rY)) (fun β w' hs=>by
     have hs1:=(hs.keepB (List.nil_sublist _)).nilRow z_ag 1
     have hU2: ∀k,Un [csF [⟨0,mkS t,mkS nm,⟨⟨ua.A,ua.c,ua.x,hok.ac⟩,(rn:Int),⟨ub.A,ub.c,ub.x,hok.bc⟩,⟨us.A,us.c,us.x,hok.sc⟩,⟨uh.A,uh.c,uh.x,hok.hc⟩⟩,gn,none,0,[],decide (mkS w3=mkS offW)⟩],rsF R] k->Un [browF z_ab uh.A uh.x uh.c,browF z_ab us.A us.x us.c,browF z_ab ub.A ub.x ub.c,browF z_ab ua.A ua.x ua.c,rsF R] k:=by
      rintro k ⟨f,hf,hk⟩
      rcases List.mem_cons.1 hf with rfl | hf
      ·obtain ⟨f2,hf2,hk2⟩:=hs1.bsCsU (c:=⟨0,mkS t,mkS nm,⟨⟨ua.A,ua.c,ua.x,hok.ac⟩,(rn:Int),⟨ub.A,ub.c,ub.x,hok.bc⟩,⟨us.A,us.c,us.x,hok.sc⟩,⟨uh.A,uh.c,uh.x,hok.hc⟩⟩,gn,none,0,[],decide (mkS w3=mkS offW)⟩) [0,1,2,3,4] rfl rfl k hk
       rcases List.mem_cons.1 hf2 with rfl | hf2
       ·cases hk2
       ·exact ⟨f2,List.mem_append_left [rsF R] hf2,hk2⟩
      ·obtain rfl:=List.mem_singleton.1 hf
       exact ⟨rsF R,by simp,hk⟩
     have hs2:=(hs1.bsCs (c:=⟨0,mkS t,mkS nm,⟨⟨ua.A,ua.c,ua.x,hok.ac⟩,(rn:Int),⟨ub.A,ub.c,ub.x,hok.bc⟩,⟨us.A,us.c,us.x,hok.sc⟩,⟨uh.A,uh.c,uh.x,hok.hc⟩⟩,gn,none,0,[],decide (mkS w3=mkS offW)⟩) [0,1,2,3,4] rfl).perm [0,2]
     have h:=z_pi R ⟨0,mkS t,mkS nm,⟨⟨ua.A,ua.c,ua.x,hok.ac⟩,(rn:Int),⟨ub.A,ub.c,ub.x,hok.bc⟩,⟨us.A,us.c,us.x,hok.sc⟩,⟨uh.A,uh.c,uh.x,hok.hc⟩⟩,gn,none,0,[],decide (mkS w3=mkS offW)⟩ hs2 (Nat.le_refl _) hw (by show t.length<=_;omega) hcz.u hcz.r hcz.n
     rw [hb,hr] at h
     exact h.gs hU2) ?_ ⟨rfl,rfl,rfl,rfl,rfl,trivial⟩
    rintro v Fs ⟨R2,rfl,k2,k3,k4,k5,k6,k7,rfl⟩
    simp only at k2
    refine BIf.not (BIf.dec (fun h4=>?_) (fun h4=>?_))
    rotate_left
    ·have h40: ¬rc=0:=h4
     intro β w' hs
     refine (hs.keepB (List.nil_sublist _)).fin [] (.inr ⟨hstop fun m q=>?_,rfl,rfl⟩)
     rcases hstU m q with ⟨ht0,c,hp,hl⟩
     obtain rfl:=Par.one z_n9 hp hpar
     rw [hr] at hl
     injection hl with q4 _
     exact h40 q4
    have h40:rc=0:=h4
    subst h40
    refine ⟨((i+1:Nat):Int),by rw [wrap_i64 (by omega) (by omega)];rfl,?_⟩
    have hj2:=(hX.load (Crd.a ⟨0,mkS t,mkS nm,⟨⟨ua.A,ua.c,ua.x,hok.ac⟩,(rn:Int),⟨ub.A,ub.c,ub.x,hok.bc⟩,⟨us.A,us.c,us.x,hok.sc⟩,⟨uh.A,uh.c,uh.x,hok.hc⟩⟩,gn,none,0,[],decide (mkS w3=mkS offW)⟩)).2
    rw [hr] at hj2
    exact ⟨⟨i+1,R2,t⟩,hgo R2 t ((hst _).2 (.inr (.inr ⟨by omega,by simp,ht00,⟨_,hpar,by rw [k2];exact hr⟩,rfl⟩))) ⟨_,by rw [k2];exact hj2⟩ k3 k4 k5 k6 ht,by show L.length - (i+1)<L.length - i;omega,Ent.mk' ⟨rfl,rfl,rfl,rfl,rfl,rfl,rfl,trivial⟩ rfl (fun β w' hs=>((hs.keepB (List.nil_sublist _)).perm [0,2,3]).lower)⟩
   have h90: ¬w9=[45]:=fun e=>h9 (congrArg mkS e)
   refine ⟨_,9,rfl,rfl,by omega,?_⟩
   refine ⟨.string (mkS w9),fun β w' hs=>Rd.cell1 (z_an (hs.get 4 rfl)) rfl,?_⟩
   refine z_aa [] (fun β w' hs=>z_oJ w' w9 44 (Nat.le_trans (hWl w9 (by simp)) (by decide))) ?_
   rintro v Fs ⟨ad9,c9,rfl,hc9,rfl⟩
   obtain ⟨L9,hL9⟩: ∃L9:List ByteArray,(splL 44 w9).map mkS=L9:=⟨_,rfl⟩
   have e9:prowF (some ad9) (splL 44 w9) c9=srowF (some ad9) L9 c9:=by
    show rowF z_ag 1 (.slice _ (splL 44 w9).length _) _ _=rowF z_ag 1 (.slice _ L9.length _) _ _
    rw [<-hL9,List.length_map]
    unfold strs
    rw [List.map_map]
    rfl
   have e10:(splL 44 w9).length=L9.length:=by rw [<-hL9,List.length_map]
   rw [e10] at hc9
   rw [e9,e10]
   have hr9:L9=rolS w9:=by unfold rolS;rw [if_neg h90,hL9]
   have hpar:Par nR (mkS t) [w0,w1,w2,w3,w4,w5,w6,w7,w8,w9] (Crd.a ⟨0,mkS t,mkS nm,⟨⟨ua.A,ua.c,ua.x,hok.ac⟩,(rn:Int),⟨ub.A,ub.c,ub.x,hok.bc⟩,⟨us.A,us.c,us.x,hok.sc⟩,⟨uh.A,uh.c,uh.x,hok.hc⟩⟩,gn,some ad9,c9,L9,decide (mkS w3=mkS offW)⟩):=hall _ _ _ hr9
   have hcz:=Par.sz (l:=x) (by rw [hW];exact hpar) hxl2
   obtain ⟨rc,rY,hr⟩: ∃rc rY,loadR R.a (Crd.a ⟨0,mkS t,mkS nm,⟨⟨ua.A,ua.c,ua.x,hok.ac⟩,(rn:Int),⟨ub.A,ub.c,ub.x,hok.bc⟩,⟨us.A,us.c,us.x,hok.sc⟩,⟨uh.A,uh.c,uh.x,hok.hc⟩⟩,gn,some ad9,c9,L9,decide (mkS w3=mkS offW)⟩)=(rc,rY):=⟨_,_,rfl⟩
   refine z_aa [0,1,2,3,4,6] (R:=rsOut R (rc,rY)) (fun β w' hs=>by
    have hs1:=hs.keepB (List.nil_sublist _)
    have hU2: ∀k,Un [csF [⟨0,mkS t,mkS nm,⟨⟨ua.A,ua.c,ua.x,hok.ac⟩,(rn:Int),⟨ub.A,ub.c,ub.x,hok.bc⟩,⟨us.A,us.c,us.x,hok.sc⟩,⟨uh.A,uh.c,uh.x,hok.hc⟩⟩,gn,some ad9,c9,L9,decide (mkS w3=mkS offW)⟩],rsF R] k->Un [srowF (some ad9) L9 c9,browF z_ab uh.A uh.x uh.c,browF z_ab us.A us.x us.c,browF z_ab ub.A ub.x ub.c,browF z_ab ua.A ua.x ua.c,rsF R] k:=by
     rintro k ⟨f,hf,hk⟩
     rcases List.mem_cons.1 hf with rfl | hf
     ·obtain ⟨f2,hf2,hk2⟩:=hs1.bsCsU (c:=⟨0,mkS t,mkS nm,⟨⟨ua.A,ua.c,ua.x,hok.ac⟩,(rn:Int),⟨ub.A,ub.c,ub.x,hok.bc⟩,⟨us.A,us.c,us.x,hok.sc⟩,⟨uh.A,uh.c,uh.x,hok.hc⟩⟩,gn,some ad9,c9,L9,decide (mkS w3=mkS offW)⟩) [0,1,2,3,4] rfl rfl k hk
      exact ⟨f2,List.mem_append_left [rsF R] hf2,hk2⟩
     ·obtain rfl:=List.mem_singleton.1 hf
      exact ⟨rsF R,by simp,hk⟩
    have hs2:=(hs1.bsCs (c:=⟨0,mkS t,mkS nm,⟨⟨ua.A,ua.c,ua.x,hok.ac⟩,(rn:Int),⟨ub.A,ub.c,ub.x,hok.bc⟩,⟨us.A,us.c,us.x,hok.sc⟩,⟨uh.A,uh.c,uh.x,hok.hc⟩⟩,gn,some ad9,c9,L9,decide (mkS w3=mkS offW)⟩) [0,1,2,3,4] rfl).perm [0,2]
    have h:=z_pi R ⟨0,mkS t,mkS nm,⟨⟨ua.A,ua.c,ua.x,hok.ac⟩,(rn:Int),⟨ub.A,ub.c,ub.x,hok.bc⟩,⟨us.A,us.c,us.x,hok.sc⟩,⟨uh.A,uh.c,uh.x,hok.hc⟩⟩,gn,some ad9,c9,L9,decide (mkS w3=mkS offW)⟩ hs2 hc9 hw (by show t.length<=_;omega) hcz.u hcz.r hcz.n
    rw [hb,hr] at h
    exact h.gs hU2) ?_ ⟨rfl,rfl,rfl,rfl,rfl,rfl,trivial⟩
   rintro v Fs ⟨R2,rfl,k2,k3,k4,k5,k6,k7,rfl⟩
   simp only at k2
   refine BIf.not (BIf.dec (fun h4=>?_) (fun h4=>?_))
   rotate_left
   ·have h40: ¬rc=0:=h4
    intro β w' hs
    refine (hs.keepB (List.nil_sublist _)).fin [] (.inr ⟨hstop fun m q=>?_,rfl,rfl⟩)
    rcases hstU m q with ⟨ht0,c,hp,hl⟩
    obtain rfl:=Par.one z_n9 hp hpar
    rw [hr] at hl
    injection hl with q4 _
    exact h40 q4
   have h40:rc=0:=h4
   subst h40
   refine ⟨((i+1:Nat):Int),by rw [wrap_i64 (by omega) (by omega)];rfl,?_⟩
   have hj2:=(hX.load (Crd.a ⟨0,mkS t,mkS nm,⟨⟨ua.A,ua.c,ua.x,hok.ac⟩,(rn:Int),⟨ub.A,ub.c,ub.x,hok.bc⟩,⟨us.A,us.c,us.x,hok.sc⟩,⟨uh.A,uh.c,uh.x,hok.hc⟩⟩,gn,some ad9,c9,L9,decide (mkS w3=mkS offW)⟩)).2
   rw [hr] at hj2
   exact ⟨⟨i+1,R2,t⟩,hgo R2 t ((hst _).2 (.inr (.inr ⟨by omega,by simp,ht00,⟨_,hpar,by rw [k2];exact hr⟩,rfl⟩))) ⟨_,by rw [k2];exact hj2⟩ k3 k4 k5 k6 ht,by show L.length - (i+1)<L.length - i;omega,Ent.mk' ⟨rfl,rfl,rfl,rfl,rfl,rfl,rfl,trivial⟩ rfl (fun β w' hs=>((hs.keepB (List.nil_sublist _)).perm [0,2,3]).lower)⟩
 ·have hge0: ¬(i:Int)<L.length:=hge
  rw [List.take_of_length_le (by omega)] at hrun
  have hp:RPl R.a:=Run.inv (fun a=>RPl a.Y) RPl.step _ 0 gs0 _ ⟨fun _ h=>(by cases h),fun _ h=>(by cases h)⟩ hrun
  obtain ⟨D,hD⟩: ∃D,dumpR R.a=D:=⟨_,rfl⟩
  refine z_ao g ?_
  refine z_ae (v:= .string (mkS D)) (fun β w' hs=>by
   have h:=z_tj w' R hX hp hw ((hs.asRo 0 rfl).mem.take (js:=[0,2]) rfl)
   rw [hD,hb] at h
   exact h) ?_
  refine BIf.not (BIf.dec (fun h6=>?_) (fun h6=>?_))
  ·have h60:D=T:=mkS1 h6
   refine z_ao g ?_
   refine z_eT g ?_
   intro β w' hs
   exact (hs.keepB (List.nil_sublist _)).fin [0] (.inl ⟨R,⟨_,(hOk2 _).2 ⟨hrun,hD.trans h60⟩⟩,by rw [hb];rfl,rfl⟩)
  ·have h60: ¬D=T:=fun e=>h6 (congrArg mkS e)
   intro β w' hs
   refine (hs.keepB (List.nil_sublist _)).fin [] (.inr ⟨fun y hy=>?_,rfl,rfl⟩)
   obtain ⟨k1,k2⟩:=(hOk2 y).1 hy
   obtain rfl:=Run.one StepR.one _ 0 _ _ _ hrun k1
   exact h60 (hD.symm.trans k2)
theorem suf10 (l:List UInt8):Lib.hasSuffix l [10]=true↔l.getLast?=some 10:=by
 unfold Lib.hasSuffix
 rw [List.isSuffixOf_iff_suffix]
 constructor
 ·rintro ⟨t,rfl⟩
  simp
 ·intro h
  have hne:l≠[]:=fun e=>by rw [e] at h;cases h
  refine ⟨l.dropLast,?_⟩
  have:=List.dropLast_concat_getLast hne
  rw [List.getLast?_eq_some_getLast hne] at h
  rw [Option.some.inj h] at this
  exact this
theorem z_q8 (l:List UInt8):Lib.hasPrefix l sumW=true↔l.take 4=sumW:=by
 unfold Lib.hasPrefix
 rw [List.isPrefixOf_iff_prefix,List.prefix_iff_eq_take]
 exact ⟨fun h=>h.symm,fun h=>h.symm⟩
theorem z_xn {T:List UInt8} {k:Nat} (hk:T.length=k+69):Shp T↔((T.drop k).take 4=sumW/\T[k+68]?=some 10/\(k=0\/T[k - 1]?=some 10)/\ ∃l,unhexA ((T.take (k+68)).drop (k+4))=some l):=by
 have hs:sealT T=T.drop k:=by unfold sealT;rw [hk];rfl
 have hb:bodyT T=T.take k:=by unfold bodyT;rw [hk];rfl
 have hd:(T.drop k).drop 4=T.drop (k+4):=by rw [List.drop_drop]
 have hlast:(T.drop (k+4)).getLast?=some 10↔T[k+68]?=some 10:=by
  rw [List.getLast?_eq_getElem?,List.getElem?_drop,List.length_drop,hk]
  rw [show k+4+(k+69 - (k+4) - 1)=k+68 by omega]
 have hbody:(T.take k=[]\/Lib.hasSuffix (T.take k) [10]=true)↔(k=0\/T[k - 1]?=some 10):=by
  rw [suf10,List.getLast?_eq_getElem?,List.length_take,hk,Nat.min_eq_left (by omega)]
  have hn:T.take k=[]↔k=0:=by
   constructor
   ·intro h
    have:=congrArg List.length h
    rw [List.length_take] at this
    simp only [List.length_nil] at this
    omega
   ·rintro rfl;rfl
  rw [hn]
  by_cases h0:k=0
  ·simp [h0]
  ·rw [List.getElem?_take,if_pos (by omega)]
 have hun: ∀(_:Lib.hasPrefix (sealT T) sumW=true) (_:T[k+68]?=some 10),Lib.trimSuffix (Lib.trimPrefix (sealT T) sumW) [10]=(T.take (k+68)).drop (k+4):=fun h1 h2=>by
  unfold Lib.trimPrefix
  rw [if_pos h1,hs]
  show Lib.trimSuffix ((T.drop k).drop 4) [10]=_
  rw [hd]
  unfold Lib.trimSuffix
  rw [if_pos ((suf10 _).2 (hlast.2 h2)),List.length_drop,hk,List.drop_take]
  congr 1
  show k+69 - (k+4) - 1=k+68 - (k+4)
  omega
 have htp:Lib.hasPrefix (sealT T) sumW=true->Lib.trimPrefix (sealT T) sumW=T.drop (k+4):=fun h1=>by
  unfold Lib.trimPrefix
  rw [if_pos h1,hs]
  exact hd
 constructor
 ·intro h
  have h2:T[k+68]?=some 10:=by
   have:=h.s
   rw [htp h.p,suf10] at this
   exact hlast.1 this
  refine ⟨by rw [<-hs];exact (z_q8 _).1 h.p,h2,?_,?_⟩
  ·have:=h.b
   rw [hb] at this
   exact hbody.1 this
  ·have:=h.u
   rw [hun h.p h2] at this
   exact this
 ·rintro ⟨h1,h2,h3,h4⟩
  have hp:Lib.hasPrefix (sealT T) sumW=true:=(z_q8 _).2 (by rw [hs];exact h1)
  refine ⟨hp,by rw [hun hp h2];exact h4,by rw [htp hp,suf10];exact hlast.2 h2,by rw [hb];exact hbody.2 h3⟩
theorem z_xT (b:List UInt8):lnL (sumL b)=[sumW++hexB (Sha.sum b)]:=by
 have h:sumL b=(sumW++hexB (Sha.sum b))++10::[]:=rfl
 rw [h,z_sM]
 ·rfl
 ·intro q
  rcases List.mem_append.1 q with q | q
  ·exact absurd q (by decide)
  ·exact z_ps 10 (by decide) _ q
theorem okT_R {T:List UInt8} (hS:Shp T) (hs:sumL (bodyT T)=sealT T):(∃y,OkT T y)↔OkR (bodyT T):=by
 have hbs:=z_kX T
 have hbe:bodyT T=[]\/(bodyT T).getLast?=some 10:=hS.b.imp id (suf10 _).1
 obtain ⟨c1,c2⟩:=z_tr _ (bodyT T) (Nat.le_refl _) hbe
 have hL:lnL T=lnL (bodyT T)++[sumW++hexB (Sha.sum (bodyT T))]:=by
  conv=>lhs;rw [<-hbs,<-hs,<-c1]
  rw [z_qY _ _ c2,c1,z_xT]
 have hd: ∀Y:RA,dumpR Y=T↔catL (bodyR Y)=bodyT T:=fun Y=>by
  unfold dumpR
  constructor
  ·intro h
   rw [<-hbs,<-hs] at h
   exact (List.append_inj' h (by rw [z_cY,z_cY])).1
  ·intro h
   rw [h,hs,hbs]
 have hne: ∀Y:RA,catL (bodyR Y)≠[]:=fun Y h=>by
  unfold bodyR at h
  rw [z_bX] at h
  have:=congrArg List.length h
  simp at this
 unfold OkT OkR
 rw [hL,List.length_append,List.length_singleton]
 rw [show (lnL (bodyT T)++[sumW++hexB (Sha.sum (bodyT T))]).take ((lnL (bodyT T)).length+1 - 1)=lnL (bodyT T) by rw [Nat.add_sub_cancel,List.take_left]]
 constructor
 ·rintro ⟨y,_,h2,h3⟩
  exact ⟨y,h2,(hd _).1 h3⟩
 ·rintro ⟨y,h2,h3⟩
  refine ⟨y,?_,h2,(hd _).2 h3⟩
  have:lnL (bodyT T)≠[]:=fun e=>by
   rw [e] at c1
   exact hne y.Y (h3.trans c1.symm)
  have:=List.length_pos_iff.2 this
  omega
set_option maxHeartbeats 1000000 in
theorem z_uf (w:World) (T:List UInt8) (hT:T.length<=99999) (hm:Mem w [oddF 1]):Con Tryz.prog z_eQ #[.string (mkS T)] w [] (fun v Fs=>(∃e:Int,CodeT OkR T e/\v= .int .i64 e)/\Fs=[]):=by
 have g:=z_hf w (Un [])
 have hml:=maxLen_eq
 have hsz:(mkS T).size=T.length:=rfl
 refine z_lp (cx:=z_dD w (Un [])) g z_jU [.c (.v (.string (mkS T)))] [oddF 1] hm ?_
 refine z_ao g ?_
 refine z_ao g ?_
 refine BIf.dec (fun q=>absurd (show (262144:Int)<(T.length:Int) from q) (by omega)) (fun _=>?_)
 refine z_ao g ?_
 obtain ⟨kk,hkk⟩: ∃kk:Int,IntKind.i64.wrap ((T.length:Int) - 69)=kk:=⟨_,rfl⟩
 refine ⟨kk,hkk,?_⟩
 rw [wrap_i64 (by omega) (by omega)] at hkk
 by_cases h69:T.length<69
 ·refine z_ao g ?_
  refine BIf.dec (fun _=>?_) (fun q=>absurd (show kk<0 by omega) q)
  intro β w' hs
  exact hs.fin [] ⟨⟨4,.inr ⟨by omega,.inl ⟨h69,rfl⟩⟩,rfl⟩,rfl⟩
 obtain ⟨k,hk⟩: ∃k,T.length=k+69:=⟨T.length - 69,by omega⟩
 have hkc:kk=(k:Int):=by omega
 have hsh:=z_xn hk
 have hbT:bodyT T=T.take k:=by unfold bodyT;rw [hk];rfl
 have hsT:sealT T=T.drop k:=by unfold sealT;rw [hk];rfl
 have hno: ¬Shp T->CodeT OkR T 4:=fun h=> .inr ⟨by omega,.inr ⟨by omega,.inl ⟨h,rfl⟩⟩⟩
 refine z_ce (ι:=Unit) g (fun _=>(T.drop k).take 4=sumW/\T[k+68]?=some 10/\(k=0\/T[k - 1]?=some 10)) 0 (fun _=>[(0,.c (.v (.string (mkS T)))),(2,.c (.v (.int .i64 0))),(3,.c (.v (.int .i64 kk)))]) (fun _=>[]) (fun _=>[oddF 1]) ?_ ?_
 rotate_left
 ·refine BIf.dec (fun q=>absurd (show kk<0 from q) (by omega)) (fun _=>?_)
  refine ⟨((k+4:Nat):Int),by rw [wrap_i64 (by omega) (by omega)];omega,?_⟩
  refine ⟨k+4,k,rfl,hkc,by rw [hsz];omega,by omega,?_⟩
  have x1:(mkS T).extract k (k+4)=mkS ((T.drop k).take 4):=by
   rw [z_eJ _ k (k+4) (by omega),List.drop_take,Nat.add_sub_cancel_left]
  rw [x1]
  refine BIf.not (BIf.dec (fun h1=>?_) (fun h1=>?_))
  rotate_left
  ·have h10: ¬(T.drop k).take 4=sumW:=fun e=>h1 (congrArg mkS e)
   intro β w' hs
   exact hs.fin [] ⟨⟨4,hno (fun h=>h10 (hsh.1 h).1),rfl⟩,rfl⟩
  have h10:(T.drop k).take 4=sumW:=mkS1 h1
  obtain ⟨y,hy⟩: ∃y,T[k+68]?=some y:=⟨_,List.getElem?_eq_getElem (by omega)⟩
  refine ⟨((k+68:Nat):Int),by rw [hsz,wrap_i64 (by omega) (by omega)];omega,?_⟩
  refine ⟨k+68,y,rfl,by rw [mkSo];exact hy,?_⟩
  refine BIf.not (BIf.dec (fun h2=>?_) (fun h2=>?_))
  rotate_left
  ·have h20: ¬(y.toNat:Int)=10:=h2
   intro β w' hs
   refine hs.fin [] ⟨⟨4,hno (fun h=>?_),rfl⟩,rfl⟩
   have:=(hsh.1 h).2.1
   rw [hy] at this
   obtain rfl:=Option.some.inj this
   exact h20 rfl
  have h20:(y.toNat:Int)=10:=h2
  obtain rfl:y=10:=UInt8.toNat_inj.1 (by show y.toNat=10;omega)
  refine BIf.dec (fun h3=>?_) (fun h3=>?_)
  ·have h30:(0:Int)<kk:=h3
   obtain ⟨z,hz⟩: ∃z,T[k - 1]?=some z:=⟨_,List.getElem?_eq_getElem (by omega)⟩
   refine ⟨((k - 1:Nat):Int),by rw [wrap_i64 (by omega) (by omega)];omega,?_⟩
   refine ⟨k - 1,z,rfl,by rw [mkSo];exact hz,?_⟩
   refine BIf.not (BIf.dec (fun h4=>?_) (fun h4=>?_))
   rotate_left
   ·have h40: ¬(z.toNat:Int)=10:=h4
    intro β w' hs
    refine hs.fin [] ⟨⟨4,hno (fun h=>?_),rfl⟩,rfl⟩
    rcases (hsh.1 h).2.2.1 with q | q
    ·omega
    ·rw [hz] at q
     obtain rfl:=Option.some.inj q
     exact h40 rfl
   have h40:(z.toNat:Int)=10:=h4
   obtain rfl:z=10:=UInt8.toNat_inj.1 (by show z.toNat=10;omega)
   exact EntX.of () ⟨h10,hy,.inr hz⟩ (Ent.mk' ⟨rfl,rfl,rfl,trivial⟩ rfl (fun β w' hs=>hs))
  ·have h30: ¬(0:Int)<kk:=h3
   exact EntX.of () ⟨h10,hy,.inl (by omega)⟩ (Ent.mk' ⟨rfl,rfl,rfl,trivial⟩ rfl (fun β w' hs=>hs))
 rintro _ ⟨q1,q2,q3⟩
 obtain ⟨U,hU⟩: ∃U,(T.take (k+68)).drop (k+4)=U:=⟨_,rfl⟩
 have hUl:U.length<=100:=by rw [<-hU,List.length_drop,List.length_take];omega
 rw [hU] at hsh
 refine z_ao g ?_
 refine ⟨((k+4:Nat):Int),by rw [wrap_i64 (by omega) (by omega)];omega,?_⟩
 refine ⟨((k+68:Nat):Int),by rw [hsz,wrap_i64 (by omega) (by omega)];omega,?_⟩
 refine ⟨k+68,k+4,rfl,rfl,by rw [hsz];omega,by omega,?_⟩
 have x2:(mkS T).extract (k+4) (k+68)=mkS U:=by rw [z_eJ _ _ _ (by omega),hU]
 rw [x2]
 refine z_aa [] (fun β w' hs=>z_rk w' U (by omega)) ?_
 rintro v Fs ⟨A1,nm,c1,e,rfl,hnm,hc1,rfl⟩
 refine BIf.not (BIf.dec (fun he=>?_) (fun he=>?_))
 rotate_left
 ·have he0: ¬e=0:=he
  intro β w' hs
  refine hs.fin [] ⟨⟨4,hno (fun h=>?_),rfl⟩,rfl⟩
  obtain ⟨l,hl⟩:=(hsh.1 h).2.2.2
  rcases hnm with ⟨q,_⟩ | ⟨_,q⟩
  ·exact he0 q
  ·rw [hl] at q;cases q
 have he0:e=0:=he
 have hS:Shp T:=hsh.2 ⟨q1,q2,q3,by
  rcases hnm with ⟨_,q⟩ | ⟨q,_⟩
  ·exact ⟨_,q⟩
  ·exact absurd he0 q⟩
 have hbl:(bodyT T).length<=99999:=by rw [hbT,List.length_take];omega
 refine z_ao g ?_
 refine ⟨k,0,hkc,rfl,by rw [hsz];omega,Nat.zero_le _,?_⟩
 have x3:(mkS T).extract 0 k=mkS (bodyT T):=by rw [z_eJ _ _ _ (by omega),List.drop_zero,hbT]
 rw [x3]
 refine z_ae (v:= .string (mkS (bodyT T++sumL (bodyT T)))) (fun β w' hs=>z_na w' (bodyT T) (by omega) (hs.get 1 rfl)) ?_
 refine BIf.not (BIf.dec (fun h5=>?_) (fun h5=>?_))
 rotate_left
 ·have h50: ¬bodyT T++sumL (bodyT T)=T:=fun e=>h5 (congrArg mkS e)
  intro β w' hs
  refine hs.fin [] ⟨⟨13,.inr ⟨by omega,.inr ⟨by omega,.inr ⟨hS,.inl ⟨fun e=>h50 ?_,rfl⟩⟩⟩⟩,rfl⟩,rfl⟩
  rw [e,z_kX]
 have h50:bodyT T++sumL (bodyT T)=T:=mkS1 h5
 have hsum:sumL (bodyT T)=sealT T:=List.append_cancel_left (h50.trans (z_kX T).symm)
 have hok:=okT_R hS hsum
 refine z_ao g ?_
 refine z_aa [] (fun β w' hs=>z_vC w' T hT (hs.mem.take (js:=[1]) rfl)) ?_
 rintro v Fs (⟨R,hy,rfl,rfl⟩ | ⟨hy,rfl,rfl⟩)
 ·refine z_ao g ?_
  refine z_eT g ?_
  intro β w' hs
  exact (hs.keepB (List.nil_sublist _)).fin [] ⟨⟨0,.inr ⟨by omega,.inr ⟨by omega,.inr ⟨hS,.inr ⟨hsum,.inr ⟨hok.1 hy,rfl⟩⟩⟩⟩⟩,rfl⟩,rfl⟩
 ·intro β w' hs
  exact (hs.keepB (List.nil_sublist _)).fin [] ⟨⟨4,.inr ⟨by omega,.inr ⟨by omega,.inr ⟨hS,.inr ⟨hsum,.inl ⟨fun h=>(hok.2 h).elim hy,rfl⟩⟩⟩⟩⟩,rfl⟩,rfl⟩
def fewA (a:ASec):ASec:=⟨a.salt.take 40,a.iter,a.stored.take 40,a.server.take 40,a.ha1.take 40⟩
set_option maxHeartbeats 1000000 in
theorem z_yG (w:World) (x:Sec) (hx:SRd x.x x.a w) (c1:x.salt.l.length<=x.salt.c) (c2:x.stored.l.length<=x.stored.c) (c3:x.server.l.length<=x.server.c) (c4:x.ha1.l.length<=x.ha1.c):
  Con Tryz.prog z_e4 #[.agg x.vs.toArray] w [] fun v Fs=> ∃y:Sec,v= .agg y.vs.toArray/\y.a=fewA x.a/\
   Fs=[browF z_ab y.ha1.A y.ha1.l y.ha1.c,browF z_ab y.server.A y.server.l y.server.c,browF z_ab y.stored.A y.stored.l y.stored.c,browF z_ab y.salt.A y.salt.l y.salt.c]:=by
 have g:=z_hI w (Un [])
 refine z_ac (cx:=z_em w (Un [])) g z_j5 rfl rfl (β:=Va.z) [.agg x.x.ss] 0 [] [oldF w] rfl rfl (z_ay rfl) ?_
 refine z_aj g z_iC (by kernel_rfl) [⟨0,z_as,x.x.ss⟩] [oldF w] (fun β w hs=>hs.keepB (List.sublist_cons_self _ _)) ?_
 refine z_aa [] (fun β w' hs=>cutC w' x.salt.A x.salt.l x.salt.c 40 (Rd.old hx.r1 (hs.get 0 rfl)) c1 (by decide)) ?_
 rintro v Fs ⟨A1,d1,rfl,e1,_,rfl⟩
 refine ⟨fun β w hs=>(hs.keepB (List.sublist_cons_self _ _)).perm [1],?_⟩
 refine z_aa [] (fun β w' hs=>cutC w' x.stored.A x.stored.l x.stored.c 40 (Rd.old hx.r2 (hs.get 1 rfl)) c2 (by decide)) ?_
 rintro v Fs ⟨A2,d2,rfl,e2,_,rfl⟩
 refine ⟨fun β w hs=>(hs.keepB (List.sublist_cons_self _ _)).perm [2],?_⟩
 refine z_aa [] (fun β w' hs=>cutC w' x.server.A x.server.l x.server.c 40 (Rd.old hx.r3 (hs.get 2 rfl)) c3 (by decide)) ?_
 rintro v Fs ⟨A3,d3,rfl,e3,_,rfl⟩
 refine ⟨fun β w hs=>(hs.keepB (List.sublist_cons_self _ _)).perm [3],?_⟩
 refine z_aa [] (fun β w' hs=>cutC w' x.ha1.A x.ha1.l x.ha1.c 40 (Rd.old hx.r4 (hs.get 3 rfl)) c4 (by decide)) ?_
 rintro v Fs ⟨A4,d4,rfl,e4,_,rfl⟩
 refine ⟨fun β w hs=>(hs.keepB (List.sublist_cons_self _ _)).perm [4],?_⟩
 refine ⟨fun β w hs=>(hs.keepB (List.sublist_cons_self _ _)).perm [4],?_⟩
 intro β w' hs
 exact (hs.keepB (List.nil_sublist _)).fin [0,1,2,3] ⟨⟨⟨A1,d1,x.salt.l.take 40,e1⟩,x.iter,⟨A2,d2,x.stored.l.take 40,e2⟩,⟨A3,d3,x.server.l.take 40,e3⟩,⟨A4,d4,x.ha1.l.take 40,e4⟩⟩,rfl,rfl,rfl⟩ rfl rfl rfl ⟨rfl,rfl,rfl,rfl,trivial⟩
end Go.Proofs.YtloeaiafphkjnaaGreatDoor.Sx
