/- Texts joined: Hex, Sha1, Sha2, Sha3, Sha4, Sha5, Sha6, Sha7, Sha8, Sha9, Pd0, Pd4, Pd5, Nam1, Nam2, Nam3, Nam4, Nam5, Nam6, Nam7, Nam8, Nam9, RnP, NamP, NmT, NamI, Iter, StrS, RoF, StoL, Sto1, Sto2, Keys, Mk1, Sto3, Sto4, Sto5, Sto6, Sto7, BsG, InsG, DelG, StoG, LdP, SxTri, TrR, Load, CutN, R14a. -/
import Derived.Test.YtloeaiafphkjnaaGreatDoorMRollLoads2
import Derived.Shelf.SlGeneric
import Derived.Shelf.SlIter.Nil
import Derived.Shelf.SortM.Plain
import Derived.Shelf.SortM.SortNone
import Derived.Ground.GgzProg
import Derived.Ground.SlgmProg
import Derived.Test.YtloeaiafphkjnaaGreatDoorProg
import Derived.Maps.Keyed
import Derived.Sort.Walk0
import Derived.Lib.Builder
import Derived.Shelf.Spec.SlicesInsert
import Derived.Shelf.Spec.SlicesInsertGrow
set_option linter.unusedVariables false
set_option linter.unusedSimpArgs false
namespace Go.Proofs.YtloeaiafphkjnaaGreatDoor.Sx
open Go
attribute [local irreducible] Calls
def dgs:List UInt8:=[48,49,50,51,52,53,54,55,56,57,97,98,99,100,101,102]
def hex2 (x:UInt8):List UInt8:=[dgs.getD (x.toNat/16) 0,dgs.getD (x.toNat%16) 0]
def hexB (l:List UInt8):List UInt8:=l.flatMap hex2
theorem z_eo (l:List UInt8):(hexB l).length=2*l.length:=by
 induction l with
 | nil=>rfl
 | cons x r ih=>simp only [hexB,List.flatMap_cons,List.length_append,List.length_cons] at ih ⊢;rw [ih];simp [hex2];omega
theorem z_nR (l:List UInt8) (x:UInt8):hexB (l++[x])=hexB l++[dgs.getD (x.toNat/16) 0]++[dgs.getD (x.toNat%16) 0]:=by simp [hexB,hex2]
theorem z_t2 {k:Nat} (h:k<16):dgs[k]?=some (dgs.getD k 0):=by
 have hk:k<dgs.length:=h
 simp [hk]
theorem and15 (x:UInt8):bits .and .u8 (x.toNat:Int) 15=((x.toNat%16:Nat):Int):=by
 show IntKind.u8.wrap (((BitVec.ofInt 8 (x.toNat:Int))&&&(BitVec.ofInt 8 15)).toNat:Int)=_
 have h1:BitVec.ofInt 8 (x.toNat:Int)=x.toBitVec:=by
  apply BitVec.eq_of_toNat_eq
  rw [BitVec.toNat_ofInt]
  have:=x.toNat_lt
  have e:x.toBitVec.toNat=x.toNat:=rfl
  rw [e]
  omega
 have h2:(BitVec.ofInt 8 15).toNat=2^4 - 1:=by decide
 rw [h1,BitVec.toNat_and,h2,Nat.and_two_pow_sub_one_eq_mod,wrap_u8]
 have e:x.toBitVec.toNat=x.toNat:=rfl
 rw [e]
 omega
structure HxS where
 k:Nat
 p:Value
 A:Option Addr
 c:Nat
theorem hex_c (w:World) (A:Option Addr) (l:List UInt8) (c:Nat) (hr:Bs w A l) (hne:l≠[]) (hn:l.length<=1000000):Pu Tryz.prog z_nj #[.slice A l.length c] w (.string ⟨(hexB l).toArray⟩):=by
 have g:=z_nI w (Un [])
 have hl0:0<l.length:=List.length_pos_iff.2 hne
 refine z_ad (cx:=z_ms w (Un [])) g z_ry rfl rfl (β:=Va.z) [.c (.v (.slice A l.length c))] 0 [] [bsF A l] rfl rfl ((Sat.start rfl).rd (fun _ h=>by cases h) hr) ?_
 refine z_ds g 0 (fun _=>[.pointer none,.slice none 0 0]) rfl rfl (fun _=>rfl) (fun b=>?_)
 refine z_ai 1 (fun i:HxS=>[(6,.c (.v (.slice A l.length c))),(7,.c (.v (.int .i64 l.length))),(8,.c (.v (.int .i64 i.k))),(3,.c (.v (selfV b)))]) (fun _=>[]) (fun i=>bldF b i.p i.A (hexB (l.take i.k)) i.c++[bsF A l])
  (fun i=>i.k<=l.length/\(i.p= .pointer none\/i.p=selfV b)) (fun i=>l.length - i.k) ⟨0,.pointer none,none,0⟩ ⟨Nat.zero_le _,.inl rfl⟩ (Ent.mk' ⟨rfl,rfl,rfl,rfl,trivial⟩ rfl ?_) g ?_
 ·intro β w' hs
  exact (hs.nilRow z_ab 1).perm [1,0,2]
 rintro ⟨k,p,A1,c1⟩ ⟨hk,hp⟩
 simp only at hk hp
 have hx0:=z_eo (l.take k)
 have htl:(l.take k).length<=l.length:=by simp;omega
 refine BIf.dec (fun hlt=>?_) (fun hge=>?_)
 ·have hlt0:(k:Int)<l.length:=hlt
  have hlt:k<l.length:=by omega
  obtain ⟨ad,hA⟩:=Bs.addr hr (by omega)
  have hb:=l[k].toNat_lt
  refine ⟨ad,k,hA,rfl,hlt,byte l[k],fun β w hs=>Bs.cell (hs.get 2 rfl) hA hlt,?_⟩
  refine ⟨by decide,((l[k].toNat/16:Nat):Int),z_rl _ 4,?_⟩
  refine ⟨l[k].toNat/16,_,rfl,z_t2 (by omega),?_⟩
  refine z_ac [0,1] (fun β w' hs=>z_lh w' b p A1 (hexB (l.take k)) c1 _ hp (by omega) (hs.mem.take (js:=[0,1]) rfl)) ?_
  rintro v Fs ⟨rfl,A2,c2,rfl⟩
  refine ⟨_,and15 l[k],?_⟩
  refine ⟨l[k].toNat%16,_,rfl,z_t2 (by omega),?_⟩
  refine z_ac [0,1] (fun β w' hs=>z_lh w' b (selfV b) A2 _ c2 _ (.inr rfl) (by simp only [List.length_append,List.length_cons,List.length_nil];omega) (hs.mem.take (js:=[0,1]) rfl)) ?_
  rintro v Fs ⟨rfl,A3,c3,rfl⟩
  refine ⟨((k+1:Nat):Int),by rw [wrap_i64 (by omega) (by omega)];rfl,?_⟩
  refine ⟨⟨k+1,selfV b,A3,c3⟩,⟨hlt,.inr rfl⟩,by show l.length - (k+1)<l.length - k;omega,?_⟩
  have e:hexB (l.take (k+1))=hexB (l.take k)++[dgs.getD (l[k].toNat/16) 0]++[dgs.getD (l[k].toNat%16) 0]:=by rw [z_oe l k hlt,z_nR]
  refine Ent.mk' ⟨rfl,rfl,rfl,rfl,trivial⟩ rfl ?_
  intro β w' hs
  show Sat _ _ _ _ (bldF b (selfV b) A3 (hexB (l.take (k+1))) c3++[bsF A l]) _
  rw [e]
  exact hs
 ·have hge0: ¬(k:Int)<l.length:=hge
  have hke:k=l.length:=by omega
  subst hke
  have hn2:hexB (l.take l.length)≠[]:=by
   intro q
   have:=congrArg List.length q
   rw [hx0] at this
   simp at this
   omega
  refine z_ac [0,1] (fun β w' hs=>z_tQ w' b p A1 _ c1 hn2 (hs.mem.take (js:=[0,1]) rfl)) ?_
  rintro v Fs ⟨rfl,rfl⟩
  intro β w' hs
  refine hs.fin [] ⟨?_,rfl⟩
  rw [List.take_length]
  rfl
end Go.Proofs.YtloeaiafphkjnaaGreatDoor.Sx
namespace Go.Proofs.YtloeaiafphkjnaaGreatDoor.Sx
open Go Sha
attribute [local irreducible] Calls
theorem z_hI (w:World) (x:UInt32) (n:Nat) (h1:1<=n) (h2:n<32):Pu Tryz.prog z_bX #[u32 x,.int .i64 (-(n:Int))] w (u32 (rotr x n)):=by
 refine pu_of (z_aL (cx:=z_bI w None_) (z_dN w None_) z_eA rfl rfl (β:=Va.z) [.c (.v (u32 x)),.c (.v (.int .i64 (-(n:Int))))] 0 [] [] rfl rfl (Sat.start rfl) ?_)
 refine ⟨_,rfl,?_⟩
 refine ⟨((32 - n:Nat):Int),?_,?_⟩
 ·have: ∀n:_root_.Fin 32,1<=n.val->bits .and .u64 (IntKind.u64.wrap (-(n.val:Int))) 31=((32 - n.val:Nat):Int):=by decide
  exact this ⟨n,h2⟩ h1
 refine ⟨by omega,_,shl32 x (32 - n) (by omega),?_⟩
 refine ⟨(n:Int),by show IntKind.u64.wrap _=_;simp only [IntKind.wrap,IntKind.bits,IntKind.signed];simp;omega,?_⟩
 refine ⟨by omega,_,shr32 x n h2,?_⟩
 refine ⟨_,or32 _ _,?_⟩
 intro β w' hs
 refine ⟨?_,hs.chg⟩
 rw [<-z_uY]
 rfl
theorem z_hF (w:World) (x:UInt32) (n:Nat) (h1:1<=n) (h2:n<32):Pu Tryz.prog z_dO #[u32 x,.int .u64 (n:Int)] w (u32 (rotr x n)):=by
 refine pu_of (z_aL (cx:=z_c2 w None_) (z_fN w None_) z_h5 rfl rfl (β:=Va.z) [.c (.v (u32 x)),.c (.v (.int .u64 (n:Int)))] 0 [] [] rfl rfl (Sat.start rfl) ?_)
 refine ⟨by omega,_,shr32 x n h2,?_⟩
 refine ⟨((32 - n:Nat):Int),by show IntKind.u64.wrap _=_;simp only [IntKind.wrap,IntKind.bits,IntKind.signed];simp;omega,?_⟩
 refine ⟨by omega,_,shl32 x (32 - n) (by omega),?_⟩
 refine ⟨_,or32 _ _,?_⟩
 intro β w' hs
 exact ⟨rfl,hs.chg⟩
theorem z_rV {x y k:Nat} (h:y<2^k):2^k*x ||| y=2^k*x+y:=(Nat.two_pow_add_eq_or_of_lt h x).symm
theorem z_u3 (a b c d:UInt8):((UInt32.ofNat a.toNat<<<UInt32.ofNat 24 ||| UInt32.ofNat b.toNat<<<UInt32.ofNat 16) ||| UInt32.ofNat c.toNat<<<UInt32.ofNat 8) ||| UInt32.ofNat d.toNat=word a b c d:=by
 apply UInt32.toNat_inj.1
 have h1:=a.toNat_lt
 have h2:=b.toNat_lt
 have h3:=c.toNat_lt
 have h4:=d.toNat_lt
 have sh: ∀(x:UInt8) (n:Nat),n<=24->(UInt32.ofNat x.toNat<<<UInt32.ofNat n).toNat=2^n*x.toNat:=by
  intro x n hn
  have hx:=x.toNat_lt
  rw [UInt32.toNat_shiftLeft,UInt32.toNat_ofNat',UInt32.toNat_ofNat',Nat.mod_eq_of_lt (show n<2^32 by omega),Nat.mod_eq_of_lt (show n<32 by omega),Nat.shiftLeft_eq,Nat.mod_eq_of_lt (show x.toNat<2^32 by omega),Nat.mul_comm]
  refine Nat.mod_eq_of_lt ?_
  have:2^n<=2^24:=Nat.pow_le_pow_right (by omega) hn
  calc 2^n*x.toNat<=2^24*x.toNat:=Nat.mul_le_mul_right _ this
   _<2^32:=by omega
 unfold word
 simp only [UInt32.toNat_or,sh a 24 (by omega),sh b 16 (by omega),sh c 8 (by omega),UInt32.toNat_ofNat']
 rw [Nat.mod_eq_of_lt (show d.toNat<2^32 by omega)]
 rw [z_rV (show 2^16*b.toNat<2^24 by omega)]
 rw [show 2^24*a.toNat+2^16*b.toNat=2^16*(256*a.toNat+b.toNat) by omega,z_rV (show 2^8*c.toNat<2^16 by omega)]
 rw [show 2^16*(256*a.toNat+b.toNat)+2^8*c.toNat=2^8*(256*(256*a.toNat+b.toNat)+c.toNat) by omega,z_rV (show d.toNat<2^8 by omega)]
 omega
theorem z_vr (w:World) (A:Option Addr) (l:List UInt8) (c:Nat) (hr:Bs w A l) (x y z u:UInt8) (h0:l[0]?=some x) (h1:l[1]?=some y) (h2:l[2]?=some z) (h3:l[3]?=some u):
  Pu Tryz.prog z_ml #[.slice A l.length c] w (u32 (word x y z u)):=by
 obtain ⟨k0,e0⟩:=List.getElem?_eq_some_iff.1 h0
 obtain ⟨k1,e1⟩:=List.getElem?_eq_some_iff.1 h1
 obtain ⟨k2,e2⟩:=List.getElem?_eq_some_iff.1 h2
 obtain ⟨k3,e3⟩:=List.getElem?_eq_some_iff.1 h3
 have g:=z_mW w None_
 obtain ⟨ad,hA⟩:=Bs.addr hr (by omega)
 have cv: ∀b:UInt8,IntKind.u32.wrap (b.toNat:Int)=((UInt32.ofNat b.toNat).toNat:Int):=fun b=>z_mf _
 refine pu_of (z_aL (cx:=z_lw w None_) g z_pL rfl rfl (β:=Va.z) [.c (.v (.slice A l.length c))] 0 [] [bsF A l] rfl rfl ((Sat.start rfl).rd (fun _ h=>by cases h) hr) ?_)
 refine z_ak g z_nD (by kernel_rfl) _ _ Sub.refl ?_
 refine ⟨ad,0,hA,rfl,k0,byte x,fun β w hs=>by rw [<-e0];exact Bs.cell (hs.get 0 rfl:Bs w A _) hA (j:=0) k0,?_⟩
 refine ⟨_,cv x,by omega,_,shl32 (UInt32.ofNat x.toNat) 24 (by omega),?_⟩
 refine ⟨ad,1,hA,rfl,k1,byte y,fun β w hs=>by rw [<-e1];exact Bs.cell (hs.get 0 rfl:Bs w A _) hA (j:=1) k1,?_⟩
 refine ⟨_,cv y,by omega,_,shl32 (UInt32.ofNat y.toNat) 16 (by omega),?_⟩
 refine ⟨_,or32 _ _,?_⟩
 refine ⟨ad,2,hA,rfl,k2,byte z,fun β w hs=>by rw [<-e2];exact Bs.cell (hs.get 0 rfl:Bs w A _) hA (j:=2) k2,?_⟩
 refine ⟨_,cv z,by omega,_,shl32 (UInt32.ofNat z.toNat) 8 (by omega),?_⟩
 refine ⟨_,or32 _ _,?_⟩
 refine ⟨ad,3,hA,rfl,k3,byte u,fun β w hs=>by rw [<-e3];exact Bs.cell (hs.get 0 rfl:Bs w A _) hA (j:=3) k3,?_⟩
 refine ⟨_,cv u,_,or32 _ _,?_⟩
 intro β w' hs
 refine ⟨?_,hs.chg⟩
 rw [<-z_u3]
 rfl
def sl32 (x:UInt32):SL:= .v (u32 x)
def arr (n:Nat) (ws:List UInt32):List SL:=(ws++List.replicate (n - ws.length) 0).map sl32
theorem z_oT {n:Nat} {ws:List UInt32} (h:ws.length<=n):(arr n ws).length=n:=by simp [arr];omega
theorem z_qZ {n:Nat} {ws:List UInt32} {i:Nat} (h:i<ws.length):(arr n ws)[i]?=some (sl32 (ws.getD i 0)):=by
 simp only [arr,List.getElem?_map]
 rw [List.getElem?_append_left h,List.getElem?_eq_getElem h]
 simp [List.getD,List.getElem?_eq_getElem h]
theorem z_oI {n:Nat} {ws:List UInt32} (h:ws.length<n) (x:UInt32):(arr n ws).set ws.length (sl32 x)=arr n (ws++[x]):=by
 obtain ⟨k,rfl⟩: ∃k,n=ws.length+(k+1):=⟨n - ws.length - 1,by omega⟩
 simp only [arr,List.length_append,List.length_cons,List.length_nil]
 rw [show ws.length+(k+1) - ws.length=k+1 by omega,show ws.length+(k+1) - (ws.length+(0+1))=k by omega,List.replicate_succ]
 simp
theorem z_o5 {n:Nat} {ws:List UInt32} (h:ws.length=n):arr n ws=ws.map sl32:=by simp [arr,h]
theorem z_rb (ws:List UInt32):allOne (ws.map sl32)=true:=z_rv fun x hx=>by obtain ⟨y,_,rfl⟩:=List.mem_map.1 hx;rfl
theorem z_u9 (β:Va) (ws:List UInt32):(ws.map sl32).map (SL.val β)=ws.map u32:=by rw [List.map_map];rfl
theorem z_gQ (l:List UInt8) (i j:Nat) (h:i+j<l.length):(l.drop i)[j]?=some (l.getD (i+j) 0):=by
 rw [List.getElem?_drop,List.getElem?_eq_getElem h]
 simp [List.getD,List.getElem?_eq_getElem h]
theorem z_sO (w:World) (A:Option Addr) (l:List UInt8) (c:Nat) (hr:Bs w A l) (hc:l.length<=c) (hl:64<=l.length) (hm:c<=maxLen):
  Pu Tryz.prog z_kd #[.slice A l.length c] w (.agg ((W l).map u32).toArray):=by
 obtain ⟨ws,hws⟩: ∃ws,W l=ws:=⟨_,rfl⟩
 have hwl:ws.length=64:=by rw [<-hws];exact W_len l
 rw [hws]
 have g:=z_lQ w None_
 refine pu_of (z_aL (cx:=z_iu w None_) g z_nQ rfl rfl (β:=Va.z) [.c (.v (.slice A l.length c))] 0 [] [bsF A l] rfl rfl ((Sat.start rfl).rd (fun _ h=>by cases h) hr) ?_)
 have e0:arr 64 []=ti212.zero.map SL.v:=by simp only [arr,List.nil_append,List.length_nil,List.map_replicate];rfl
 refine z_ai (ι:=Nat) 2 (fun i=>[(0,.c (.v (.slice A l.length c))),(2,.c (.p 0 0)),(3,.c (.p 1 0)),(10,.c (.v (.int .i64 i)))]) (fun i=>[⟨1,212,arr 64 (sched l i)⟩,⟨0,212,arr 64 []⟩]) (fun _=>[bsF A l])
  (fun i=>i<=16) (fun i=>16 - i) 0 (Nat.zero_le _) (Ent.mk' ⟨rfl,rfl,rfl,rfl,trivial⟩ rfl (fun β w' hs=>by rw [show sched l 0=[] from rfl,e0];exact hs)) g ?_
 intro i hi
 refine BIf.dec (fun hlt=>?_) (fun hge=>?_)
 ·have hlt:i<16:=by omega
  rw [z_ag] at hm
  refine ⟨((4*i:Nat):Int),by rw [wrap_i64 (by omega) (by omega)];omega,?_⟩
  refine ⟨c,l.length,4*i,(l.drop (4*i)).length,c - 4*i,_,rfl,rfl,rfl,Nat.le_refl _,hc,by omega,by rw [List.length_drop],rfl,rfl,?_⟩
  refine z_af (fun β w' hs=>z_vr w' _ (l.drop (4*i)) _ (Bs.cutB (hs.get 0 rfl:Bs w' A l) (j:=l.length) hc (by omega) (Nat.le_refl _) (by rw [List.take_of_length_le (by simp)])) _ _ _ _
   (z_gQ l (4*i) 0 (by omega)) (z_gQ l (4*i) 1 (by omega)) (z_gQ l (4*i) 2 (by omega)) (z_gQ l (4*i) 3 (by omega))) ?_
  refine ⟨i,rfl,by omega,?_⟩
  have hsl:(sched l i).length=i:=z_dY l i
  refine z_t8 (b:=Nat.ble (0+i*1+1) (arr 64 (sched l i)).length) (by rw [z_oT (by omega),Nat.ble_eq];omega) ?_
  refine ⟨((i+1:Nat):Int),by rw [wrap_i64 (by omega) (by omega)];rfl,?_⟩
  refine ⟨i+1,by omega,by omega,Ent.mk' ⟨rfl,rfl,rfl,rfl,trivial⟩ rfl (fun β w' hs=>?_)⟩
  have e1:putAll (arr 64 (sched l i)) (0+i*1) [sl32 (wordAt l i)]=arr 64 (sched l (i+1)):=by
   rw [putAll,putAll,z_aC,Nat.zero_add,Nat.mul_one]
   have:=z_oI (n:=64) (ws:=sched l i) (by omega) (wordAt l i)
   rw [hsl] at this
   rw [this,sched,if_pos hlt]
  rw [<-e1]
  exact hs
 ·obtain rfl:i=16:=by omega
  rw [z_ag] at hm
  refine z_ai (ι:=Nat) 2 (fun i=>[(0,.c (.v (.slice A l.length c))),(2,.c (.p 0 0)),(3,.c (.p 1 0)),(5,.c (.v (.int .i64 i)))]) (fun i=>[⟨1,212,arr 64 (sched l i)⟩,⟨0,212,arr 64 []⟩]) (fun _=>[bsF A l])
   (fun i=>16<=i/\i<=64) (fun i=>64 - i) 16 ⟨by omega,by omega⟩ (Ent.same ⟨rfl,rfl,rfl,rfl,trivial⟩ rfl) g ?_
  rintro i ⟨hi1,hi2⟩
  refine BIf.dec (fun hlt=>?_) (fun hge=>?_)
  ·have hlt:i<64:=by omega
   have hsl:(sched l i).length=i:=z_dY l i
   have ld: ∀ {k:Nat},k<i->nth (arr 64 (sched l i)) (0+k*1)=some (sl32 ((sched l i).getD k 0)):=fun {k} hk=>by
    rw [z_ax,Nat.zero_add,Nat.mul_one];exact z_qZ (by omega)
   refine z_ak g z_ll (by kernel_rfl) _ _ Sub.refl ?_
   refine ⟨((i - 15:Nat):Int),by rw [wrap_i64 (by omega) (by omega)];omega,i - 15,rfl,by omega,?_⟩
   conv=>whnf
   generalize hn:nth _ _=o
   obtain rfl:o=some (sl32 ((sched l i).getD (i - 15) 0)):=hn.symm.trans (ld (by omega))
   clear hn
   refine ⟨((i - 2:Nat):Int),by rw [wrap_i64 (by omega) (by omega)];omega,i - 2,rfl,by omega,?_⟩
   conv=>whnf
   generalize hn:nth _ _=o
   obtain rfl:o=some (sl32 ((sched l i).getD (i - 2) 0)):=hn.symm.trans (ld (by omega))
   clear hn
   obtain ⟨xa,hxa⟩: ∃xa,(sched l i).getD (i - 15) 0=xa:=⟨_,rfl⟩
   obtain ⟨xb,hxb⟩: ∃xb,(sched l i).getD (i - 2) 0=xb:=⟨_,rfl⟩
   rw [hxa,hxb]
   refine z_af (fun β w' hs=>z_hI w' xa 7 (by omega) (by omega)) ?_
   refine z_af (fun β w' hs=>z_hI w' xa 18 (by omega) (by omega)) ?_
   refine ⟨_,xor32 _ _,by omega,_,shr32 xa 3 (by omega),_,xor32 _ _,?_⟩
   refine z_af (fun β w' hs=>z_hI w' xb 17 (by omega) (by omega)) ?_
   refine z_af (fun β w' hs=>z_hI w' xb 19 (by omega) (by omega)) ?_
   refine ⟨_,xor32 _ _,by omega,_,shr32 xb 10 (by omega),_,xor32 _ _,?_⟩
   refine z_ak g z_kM (by kernel_rfl) _ _ Sub.refl ?_
   refine ⟨((i - 16:Nat):Int),by rw [wrap_i64 (by omega) (by omega)];omega,i - 16,rfl,by omega,?_⟩
   conv=>whnf
   generalize hn:nth _ _=o
   obtain rfl:o=some (sl32 ((sched l i).getD (i - 16) 0)):=hn.symm.trans (ld (by omega))
   clear hn
   refine ⟨_,add32 _ _,?_⟩
   refine ⟨((i - 7:Nat):Int),by rw [wrap_i64 (by omega) (by omega)];omega,i - 7,rfl,by omega,?_⟩
   conv=>whnf
   generalize hn:nth _ _=o
   obtain rfl:o=some (sl32 ((sched l i).getD (i - 7) 0)):=hn.symm.trans (ld (by omega))
   clear hn
   refine ⟨_,add32 _ _,_,add32 _ _,i,rfl,by omega,?_⟩
   refine z_t8 (b:=Nat.ble (0+i*1+1) (arr 64 (sched l i)).length) (by rw [z_oT (by omega),Nat.ble_eq];omega) ?_
   refine ⟨((i+1:Nat):Int),by rw [wrap_i64 (by omega) (by omega)];rfl,?_⟩
   refine ⟨i+1,⟨by omega,by omega⟩,by omega,Ent.mk' ⟨rfl,rfl,rfl,rfl,trivial⟩ rfl (fun β w' hs=>?_)⟩
   have e1:putAll (arr 64 (sched l i)) (0+i*1) [sl32 ((sched l i).getD (i - 16) 0+s0 xa+(sched l i).getD (i - 7) 0+s1 xb)]=arr 64 (sched l (i+1)):=by
    rw [putAll,putAll,z_aC,Nat.zero_add,Nat.mul_one]
    have:=z_oI (n:=64) (ws:=sched l i) (by omega) ((sched l i).getD (i - 16) 0+s0 xa+(sched l i).getD (i - 7) 0+s1 xb)
    rw [hsl] at this
    rw [this,sched,if_neg (by omega),nxt,hxa,hxb]
   rw [<-e1]
   exact hs
  ·have hi64:i=64:=by omega
   have e2:arr 64 (sched l i)=ws.map sl32:=by
    rw [<-hws,hi64]
    exact z_o5 (z_dY l 64)
   clear hi64 hi1 hi2 hge
   rw [e2]
   conv=>whnf
   generalize hn:takeAt _ _ _=o
   obtain rfl:o=some (ws.map sl32):=hn.symm.trans (z_mA (by rw [List.length_map,hwl];rfl))
   clear hn
   conv=>whnf
   generalize h1:Nat.beq _ _=b1
   generalize h2:allOne _=b2
   obtain rfl:b1=true:=h1.symm.trans (by rw [List.length_map,hwl];rfl)
   obtain rfl:b2=true:=h2.symm.trans (z_rb ws)
   clear h1 h2
   conv=>whnf
   generalize h1:Nat.ble _ _=b1
   obtain rfl:b1=true:=h1.symm.trans (by rw [List.length_map,hwl];rfl)
   clear h1
   conv=>whnf
   generalize hn:resOf _ _ _ _=o
   obtain rfl:o=some [.agg (ws.map sl32)]:=hn.symm.trans (by
    have hp:putAll (arr 64 []) 0 (ws.map sl32)=ws.map sl32:=z_lq (by rw [List.length_map,hwl];rfl)
    show (match takeAt (putAll (arr 64 []) 0 (ws.map sl32)) 0 64 with | some xs=>some [SV.agg xs] | none=>none)=_
    rw [hp,z_mA (by rw [List.length_map,hwl])])
   clear hn
   intro β w' hs
   refine ⟨?_,hs.chg⟩
   show Value.agg ((ws.map sl32).map (SL.val β)).toArray=_
   rw [z_u9]
def oddF (g:Nat):Fact:=rdF 1 (some ⟨g,0,none⟩) 64 (K.map u32)
def stF (b ty:Nat) (s:S8):Fact:=bkF b ty (s.l.map u32)
theorem z_lo (s:S8) (w:List UInt32) (n:Nat):rounds s w (n+1)=(rounds s w n).round (K.getD n 0) (w.getD n 0):=rfl
theorem K_len:K.length=64:=rfl
theorem z_pp {g:Nat} {w:World} (h:(oddF g).p w) {i:Nat} (hi:i<64):w.cell? ((⟨g,0,none⟩:Addr).add (i*1))=some (u32 (K.getD i 0)):=by
 obtain ⟨_,h2⟩:=h
 obtain ⟨ad,q,hc⟩:=h2 (by omega)
 obtain rfl:=Option.some.inj q
 rw [Nat.mul_one]
 refine hc i _ ?_
 rw [List.getElem?_map,List.getElem?_eq_getElem (by rw [K_len];exact hi)]
 simp [List.getD,List.getElem?_eq_getElem (show i<K.length by rw [K_len];exact hi)]
def mix (s t:S8) (i:Nat):List SL:=((s.add t).l.take i++s.l.drop i).map sl32
theorem z_rI (s t:S8): ∀i,i<9->(mix s t i).length=8
 | 0,_=>rfl | 1,_=>rfl | 2,_=>rfl | 3,_=>rfl | 4,_=>rfl | 5,_=>rfl | 6,_=>rfl | 7,_=>rfl | 8,_=>rfl
 | n+9,h=>by omega
theorem z_rs (s t:S8): ∀i,i<8->nth (mix s t i) i=some (sl32 (s.l.getD i 0))
 | 0,_=>rfl | 1,_=>rfl | 2,_=>rfl | 3,_=>rfl | 4,_=>rfl | 5,_=>rfl | 6,_=>rfl | 7,_=>rfl
 | n+8,h=>by omega
theorem z_qK (s t:S8): ∀i,i<8->putAll (mix s t i) i [sl32 (s.l.getD i 0+t.l.getD i 0)]=mix s t (i+1)
 | 0,_=>rfl | 1,_=>rfl | 2,_=>rfl | 3,_=>rfl | 4,_=>rfl | 5,_=>rfl | 6,_=>rfl | 7,_=>rfl
 | n+8,h=>by omega
theorem l_get (t:S8): ∀i,i<8->(t.l.map sl32)[i]?=some (sl32 (t.l.getD i 0))
 | 0,_=>rfl | 1,_=>rfl | 2,_=>rfl | 3,_=>rfl | 4,_=>rfl | 5,_=>rfl | 6,_=>rfl | 7,_=>rfl
 | n+8,h=>by omega
theorem z_vv (w:World) (b ty:Nat) (s:S8) (A:Option Addr) (l:List UInt8) (c:Nat) (hm:Mem w [stF b ty s,bsF A l,oddF 2]) (hc:l.length<=c) (hl:64<=l.length) (hcm:c<=maxLen):
  Con Tryz.prog z_cV #[.pointer (some ⟨b,0,none⟩),.slice A l.length c] w [stF b ty s] fun v Fs=>v= .tuple #[]/\Fs=[stF b ty (Sha.step s l)]:=by
 obtain ⟨ws,hws⟩: ∃ws,W l=ws:=⟨_,rfl⟩
 have hwl:ws.length=64:=by rw [<-hws];exact W_len l
 have g:=z_h1 w (Un [stF b ty s]) (bs:=[b])
 have hs0:Sat (z_br w (Un [stF b ty s]) [b]) (Va.of fun _=>b) 1 [] [stF b ty s,bsF A l,oddF 2] w:=
  hm.sat rfl (ownIn (Gs:=[stF b ty s]) (Rs:=[bsF A l,oddF 2]) (fun g hg=>by
   rcases List.mem_cons.1 hg with rfl | hg
   ·rfl
   ·obtain rfl:=List.mem_singleton.1 hg;rfl)) ⟨Nat.le_refl _,fun i hi=>by
    have hi1:i<1:=hi
    have hi0:i=0:=by omega
    rw [hi0];rfl⟩
 have hs1:=hs0.toBk 0 rfl 0 Nat.zero_lt_one rfl
 refine z_ad (cx:=z_br w (Un [stF b ty s]) [b]) g z_ke rfl rfl (β:=Va.of fun _=>b) [.c (.p 0 0),.c (.v (.slice A l.length c))] 1 [⟨0,ty,s.l.map sl32⟩] [bsF A l,oddF 2] rfl rfl (by rw [List.map_map] at hs1;exact hs1) ?_
 refine z_af (fun β w' hs=>z_sO w' A l c (hs.get 0 rfl) hc hl hcm) ?_
 rw [hws]
 have ea:ofValue (.agg (ws.map u32).toArray)= .agg (ws.map sl32):=by simp only [ofValue,List.map_map];rfl
 rw [ea]
 conv=>whnf
 generalize h1:Nat.beq _ _=b1
 generalize h2:allOne _=b2
 obtain rfl:b1=true:=h1.symm.trans (by rw [List.length_map,hwl];rfl)
 obtain rfl:b2=true:=h2.symm.trans (z_rb ws)
 clear h1 h2
 conv=>whnf
 generalize h1:Nat.ble _ _=b1
 obtain rfl:b1=true:=h1.symm.trans (by rw [List.length_map,hwl];rfl)
 clear h1
 refine z_ak g z_ir (by kernel_rfl) _ _ Sub.refl ?_
 refine ⟨0,rfl,by decide,?_⟩
 refine ⟨1,rfl,by decide,?_⟩
 refine ⟨2,rfl,by decide,?_⟩
 refine ⟨3,rfl,by decide,?_⟩
 refine ⟨4,rfl,by decide,?_⟩
 refine ⟨5,rfl,by decide,?_⟩
 refine ⟨6,rfl,by decide,?_⟩
 refine ⟨7,rfl,by decide,?_⟩
 have hp:putAll (ti212.zero.map SL.v) 0 (ws.map sl32)=ws.map sl32:=z_lq (by rw [List.length_map,hwl];rfl)
 refine z_ai (ι:=Nat) 2 (fun i=>[(0,.c (.p 0 0)),(4,.c (.p 1 0)),(5,.c (sl32 (rounds s ws i).a)),(6,.c (sl32 (rounds s ws i).b)),(7,.c (sl32 (rounds s ws i).c)),(8,.c (sl32 (rounds s ws i).d)),(9,.c (sl32 (rounds s ws i).e)),(10,.c (sl32 (rounds s ws i).f)),(11,.c (sl32 (rounds s ws i).g)),(12,.c (sl32 (rounds s ws i).h)),(55,.c (.v (.int .i64 i)))])
  (fun _=>[⟨1,212,ws.map sl32⟩,⟨0,ty,s.l.map sl32⟩]) (fun _=>[bsF A l,oddF 2])
  (fun i=>i<=64) (fun i=>64 - i) 0 (Nat.zero_le _) (Ent.mk' ⟨rfl,rfl,rfl,rfl,rfl,rfl,rfl,rfl,rfl,rfl,rfl,trivial⟩ rfl (fun β w' hs=>by rw [<-hp];exact hs)) g ?_
 intro i hi
 obtain ⟨r,hr⟩: ∃r,rounds s ws i=r:=⟨_,rfl⟩
 rw [hr]
 obtain ⟨xa,xb,xc,xd,xe,xf,xg,xh⟩:=r
 refine BIf.dec (fun hlt=>?_) (fun hge=>?_)
 ·have hlt:i<64:=by omega
  refine z_af (fun β w' hs=>z_hI w' xe 6 (by omega) (by omega)) ?_
  refine z_af (fun β w' hs=>z_hI w' xe 11 (by omega) (by omega)) ?_
  refine ⟨_,xor32 _ _,?_⟩
  refine z_af (fun β w' hs=>z_hI w' xe 25 (by omega) (by omega)) ?_
  refine ⟨_,xor32 _ _,?_⟩
  refine ⟨_,and32 _ _,_,not32 _,_,and32 _ _,_,xor32 _ _,?_⟩
  refine z_ak g z_iL (by kernel_rfl) _ _ Sub.refl ?_
  refine ⟨_,add32 _ _,_,add32 _ _,i,rfl,hlt,u32 (K.getD i 0),fun β w' hs=>z_pp (hs.get 1 rfl) hlt,_,add32 _ _,i,rfl,hlt,?_⟩
  conv=>whnf
  generalize hn:nth _ _=o
  obtain rfl:o=some (sl32 (ws.getD i 0)):=hn.symm.trans (by
   show nth (ws.map sl32) (0+i*1)=_
   rw [z_ax,Nat.zero_add,Nat.mul_one,List.getElem?_map,List.getElem?_eq_getElem (by omega)]
   simp [List.getD,List.getElem?_eq_getElem (show i<ws.length by omega)])
  clear hn
  refine ⟨_,add32 _ _,?_⟩
  refine z_af (fun β w' hs=>z_hI w' xa 2 (by omega) (by omega)) ?_
  refine z_af (fun β w' hs=>z_hI w' xa 13 (by omega) (by omega)) ?_
  refine ⟨_,xor32 _ _,?_⟩
  refine z_af (fun β w' hs=>z_hI w' xa 22 (by omega) (by omega)) ?_
  refine ⟨_,xor32 _ _,?_⟩
  refine ⟨_,and32 _ _,_,and32 _ _,_,xor32 _ _,_,and32 _ _,_,xor32 _ _,?_⟩
  refine ⟨_,add32 _ _,_,add32 _ _,_,add32 _ _,?_⟩
  refine ⟨((i+1:Nat):Int),by rw [wrap_i64 (by omega) (by omega)];rfl,?_⟩
  refine ⟨i+1,by omega,by omega,Ent.same ?_ rfl⟩
  rw [z_lo,hr]
  exact ⟨rfl,rfl,rfl,rfl,rfl,rfl,rfl,rfl,rfl,rfl,rfl,trivial⟩
 ·obtain ⟨t,ht⟩: ∃t,(⟨xa,xb,xc,xd,xe,xf,xg,xh⟩:S8)=t:=⟨_,rfl⟩
  have hst:Sha.step s l=s.add t:=by
   have:i=64:=by omega
   rw [Sha.step,hws,<-ht,<-hr,this]
  rw [hst]
  refine z_ai (ι:=Nat) 2 (fun i=>[(0,.c (.p 0 0)),(129,.agg [sl32 xa,sl32 xb,sl32 xc,sl32 xd,sl32 xe,sl32 xf,sl32 xg,sl32 xh]),(130,.c (.v (.int .i64 i)))])
   (fun i=>[⟨1,212,ws.map sl32⟩,⟨0,ty,mix s t i⟩]) (fun _=>[bsF A l,oddF 2])
   (fun i=>i<=8) (fun i=>8 - i) 0 (Nat.zero_le _) (Ent.same ⟨rfl,rfl,rfl,trivial⟩ rfl) g ?_
  intro j hj
  refine BIf.dec (fun hlt=>?_) (fun hge=>?_)
  ·have hlt:j<8:=by omega
   refine ⟨j,sl32 (t.l.getD j 0),rfl,hlt,by rw [<-ht];show ((⟨xa,xb,xc,xd,xe,xf,xg,xh⟩:S8).l.map sl32)[j*1]?=_;rw [Nat.mul_one];exact l_get _ j hlt,?_⟩
   refine z_ak g z_ig (by kernel_rfl) [] [bsF A l,oddF 2] (Sub.of (List.nil_sublist _) (List.Sublist.refl _)) ?_
   refine ⟨j,rfl,hlt,?_⟩
   conv=>whnf
   generalize hn:nth _ _=o
   obtain rfl:o=some (sl32 (s.l.getD j 0)):=hn.symm.trans (by
    show nth (mix s t j) (0+j*1)=_
    rw [Nat.zero_add,Nat.mul_one]
    exact z_rs s t j hlt)
   clear hn
   refine ⟨Sub.of (List.nil_sublist _) (List.Sublist.refl _),_,add32 _ _,j,rfl,hlt,?_⟩
   conv=>whnf
   generalize h1:Nat.ble _ _=b1
   obtain rfl:b1=true:=h1.symm.trans (by
    show Nat.ble (0+j*1+1) (mix s t j).length=true
    rw [z_rI s t j (by omega),Nat.ble_eq];omega)
   clear h1
   refine ⟨Sub.of (List.nil_sublist _) (List.Sublist.refl _),?_⟩
   refine ⟨((j+1:Nat):Int),by rw [wrap_i64 (by omega) (by omega)];rfl,?_⟩
   refine ⟨j+1,by omega,by omega,Ent.mk' ⟨rfl,rfl,rfl,trivial⟩ rfl (fun β w' hs=>?_)⟩
   have e1:=z_qK s t j hlt
   rw [<-e1]
   have e3:0+j*1=j:=by omega
   have hs2:Sat (z_br w (Un [stF b ty s]) [b]) β 2 [⟨1,212,ws.map sl32⟩,⟨0,ty,putAll (mix s t j) (0+j*1) [sl32 (s.l.getD j 0+t.l.getD j 0)]⟩] [bsF A l,oddF 2] w':=hs
   rw [e3] at hs2
   exact hs2
  ·obtain rfl:j=8:=by omega
   intro β w' hs
   have h1:=hs.weaken (List.sublist_cons_self _ _) (List.Sublist.refl _)
   have h2:=h1.ofBk
   have hb:β 0=b:=h2.fix.2 0 (Nat.zero_lt_one)
   refine h2.fin [0] ⟨rfl,?_⟩
   show [bkF (β 0) ty ((mix s t 8).map (SL.val β))]=[stF b ty (s.add t)]
   rw [hb]
   rfl
theorem z_na (x:UInt32):IntKind.u8.wrap (x.toNat:Int)=(x.toUInt8.toNat:Int):=by
 rw [show IntKind.u8.wrap (x.toNat:Int)=(x.toNat:Int)%256 by simp [IntKind.wrap,IntKind.bits,IntKind.signed],UInt32.toNat_toUInt8]
 omega
def outN (s:S8) (i:Nat):List UInt8:=(s.l.take i).flatMap b4
theorem z_nE (s:S8): ∀i,i<8->outN s i++b4 (s.l.getD i 0)=outN s (i+1)
 | 0,_=>rfl | 1,_=>rfl | 2,_=>rfl | 3,_=>rfl | 4,_=>rfl | 5,_=>rfl | 6,_=>rfl | 7,_=>rfl
 | n+8,h=>by omega
theorem z_q6 (w:World) (b ty:Nat) (s:S8) (hm:Mem w [stF b ty s]):
  Con Tryz.prog z_eD #[.pointer (some ⟨b,0,none⟩)] w [stF b ty s] fun v Fs=> ∃A c,v= .slice A 32 c/\32<=c/\c<=maxLen/\Fs=[stF b ty s,browF z_ab A (out s) c]:=by
 have g:=z_g8 w (Un [stF b ty s]) (bs:=[b])
 have hs0:Sat (z_b7 w (Un [stF b ty s]) [b]) (Va.of fun _=>b) 1 [] [stF b ty s] w:=
  hm.sat rfl (ownIn (Gs:=[stF b ty s]) (Rs:=[]) (fun g hg=>by cases hg)) ⟨Nat.le_refl _,fun i hi=>by
    have hi1:i<1:=hi
    have hi0:i=0:=by omega
    rw [hi0];rfl⟩
 have hs1:=hs0.toBk 0 rfl 0 Nat.zero_lt_one rfl
 rw [List.map_map] at hs1
 refine z_ad (cx:=z_b7 w (Un [stF b ty s]) [b]) g z_jl rfl rfl (β:=Va.of fun _=>b) [.c (.p 0 0)] 1 [⟨0,ty,s.l.map sl32⟩] [browF z_ab none [] 0] rfl rfl (hs1.nilRow _ _) ?_
 refine z_ai (ι:=Nat×Option Addr×Nat) 1 (fun i=>[(6,.c (.p 0 0)),(7,.c (.v (.int .i64 i.1))),(3,.c (.v (.slice i.2.1 (4*i.1) i.2.2)))]) (fun _=>[⟨0,ty,s.l.map sl32⟩])
  (fun i=>[rowF z_ab 1 (.slice i.2.1 (4*i.1) i.2.2) (4*i.1) ((outN s i.1).map byte)])
  (fun i=>i.1<=8/\4*i.1<=i.2.2/\i.2.2<=maxLen) (fun i=>8 - i.1) (0,none,0) ⟨Nat.zero_le _,Nat.zero_le _,Nat.zero_le _⟩ (Ent.same ⟨rfl,rfl,rfl,trivial⟩ rfl) g ?_
 rintro ⟨i,A,c⟩ ⟨hi,hc,hcm⟩
 simp only at hi hc hcm
 refine BIf.dec (fun hlt=>?_) (fun hge=>?_)
 ·have hlt:i<8:=by omega
  obtain ⟨x,hx⟩: ∃x,s.l.getD i 0=x:=⟨_,rfl⟩
  refine ⟨i,rfl,hlt,?_⟩
  conv=>whnf
  generalize hn:nth _ _=o
  obtain rfl:o=some (sl32 x):=hn.symm.trans (by
   show nth (s.l.map sl32) (0+i*1)=_
   rw [Nat.zero_add,Nat.mul_one,<-hx,z_ax]
   exact l_get s i hlt)
  clear hn
  refine ⟨by omega,_,shr32 x 24 (by omega),_,z_na _,by omega,_,shr32 x 16 (by omega),_,z_na _,by omega,_,shr32 x 8 (by omega),_,z_na _,_,z_na _,?_⟩
  intro b2
  refine ⟨1,4*i,4*(i+1),(outN s i).map byte,(b4 x).map byte,_,rfl,fun β w hs=>z_am (hs.get 0 rfl),z_aq _,by omega,rfl,by rw [z_ag];omega,by show 4*(i+1)*1<=_;omega,?_⟩
  intro A' c' h1 h2 _
  refine ⟨((i+1:Nat):Int),by rw [wrap_i64 (by omega) (by omega)];rfl,?_⟩
  refine ⟨(i+1,A',c'),⟨by show i+1<=8;omega,h1,h2⟩,by show 8 - (i+1)<8 - i;omega,Ent.mk' ⟨rfl,rfl,rfl,trivial⟩ rfl (fun β w' hs=>?_)⟩
  have e1:=z_nE s i hlt
  rw [hx] at e1
  have h3:=hs.weaken (List.Sublist.refl _) (List.sublist_cons_self _ _)
  show Sat _ _ _ _ [rowF z_ab 1 (.slice A' (4*(i+1)) c') (4*(i+1)) ((outN s (i+1)).map byte)] _
  rw [<-e1,List.map_append]
  exact h3
 ·obtain rfl:i=8:=by omega
  intro β w' hs
  have h2:=hs.ofBk
  have hb:β 0=b:=h2.fix.2 0 (Nat.zero_lt_one)
  refine h2.fin [0,1] ⟨A,c,rfl,hc,hcm,?_⟩
  show [bkF (β 0) ty ((s.l.map sl32).map (SL.val β)),_]=[stF b ty s,_]
  rw [hb]
  rfl
theorem z_fy (x:Nat):IntKind.u8.wrap (x:Int)=((UInt8.ofNat x).toNat:Int):=by
 rw [show IntKind.u8.wrap (x:Int)=(x:Int)%256 by simp [IntKind.wrap,IntKind.bits,IntKind.signed],UInt8.toNat_ofNat']
 omega
theorem z_aV (x:Int):IntKind.u64.wrap x=x%18446744073709551616:=by simp [IntKind.wrap,IntKind.bits,IntKind.signed]
theorem z_pQ (n:Nat): ∀i,i<8->(Sha.long n).take i++[UInt8.ofNat (n/2^(8*(7 - i)))]=(Sha.long n).take (i+1)
 | 0,_=>rfl | 1,_=>rfl | 2,_=>rfl | 3,_=>rfl | 4,_=>rfl | 5,_=>rfl | 6,_=>rfl | 7,_=>rfl
 | n+8,h=>by omega
theorem z_vU (w:World) (n:Nat):
  Con Tryz.prog z_mo #[.int .u64 n] w [] fun v Fs=> ∃A c,v= .slice A 8 c/\8<=c/\c<=maxLen/\Fs=[browF z_ab A (Sha.long n) c]:=by
 have g:=z_mY w (Un [])
 refine z_ad (cx:=z_k9 w (Un [])) g z_pY rfl rfl (β:=Va.z) [.c (.v (.int .u64 n))] 0 [] [browF z_ab none [] 0] rfl rfl ((Sat.start rfl).nilRow _ _) ?_
 refine z_ai (ι:=Nat×Option Addr×Nat) 0 (fun i=>[(0,.c (.v (.int .u64 n))),(5,.c (.v (.int .i64 i.1))),(3,.c (.v (.slice i.2.1 i.1 i.2.2)))]) (fun _=>[])
  (fun i=>[rowF z_ab 1 (.slice i.2.1 i.1 i.2.2) i.1 (((Sha.long n).take i.1).map byte)])
  (fun i=>i.1<=8/\i.1<=i.2.2/\i.2.2<=maxLen) (fun i=>8 - i.1) (0,none,0) ⟨Nat.zero_le _,Nat.zero_le _,Nat.zero_le _⟩ (Ent.same ⟨rfl,rfl,rfl,trivial⟩ rfl) g ?_
 rintro ⟨i,A,c⟩ ⟨hi,hc,hcm⟩
 simp only at hi hc hcm
 refine BIf.dec (fun hlt=>?_) (fun hge=>?_)
 ·have hlt:i<8:=by omega
  refine ⟨((7 - i:Nat):Int),by rw [wrap_i64 (by omega) (by omega)];omega,((8*(7 - i):Nat):Int),by rw [wrap_i64 (by omega) (by omega)];omega,?_⟩
  refine ⟨by omega,((n/2^(8*(7 - i)):Nat):Int),?_,_,z_fy _,?_⟩
  ·have h1:min ((8*(7 - i):Nat):Int).toNat IntKind.u64.bits=8*(7 - i):=by show min (8*(7 - i)) 64=_;omega
   rw [h1]
   have:(2^(8*(7 - i)):Int)=((2^(8*(7 - i)):Nat):Int):=by push_cast;rfl
   rw [this,Int.fdiv_eq_ediv_of_nonneg _ (Int.natCast_nonneg _)]
   exact (Int.natCast_ediv _ _).symm
  intro b2
  refine ⟨1,i,i+1,((Sha.long n).take i).map byte,[UInt8.ofNat (n/2^(8*(7 - i)))].map byte,_,rfl,fun β w hs=>z_am (hs.get 0 rfl),z_aq _,rfl,rfl,by rw [z_ag];omega,by show (i+1)*1<=_;omega,?_⟩
  intro A' c' h1 h2 _
  refine ⟨((i+1:Nat):Int),by rw [wrap_i64 (by omega) (by omega)];rfl,?_⟩
  refine ⟨(i+1,A',c'),⟨by show i+1<=8;omega,h1,h2⟩,by show 8 - (i+1)<8 - i;omega,Ent.mk' ⟨rfl,rfl,rfl,trivial⟩ rfl (fun β w' hs=>?_)⟩
  have h3:=hs.weaken (List.Sublist.refl _) (List.sublist_cons_self _ _)
  show Sat _ _ _ _ [rowF z_ab 1 (.slice A' (i+1) c') (i+1) (((Sha.long n).take (i+1)).map byte)] _
  rw [<-z_pQ n i hlt,List.map_append]
  exact h3
 ·obtain rfl:i=8:=by omega
  intro β w' hs
  exact hs.fin [0] ⟨A,c,rfl,hc,hcm,rfl⟩
theorem z_vu (w:World) (n:Nat) (hn:n<=140737488355328):
  Con Tryz.prog z_mu #[.int .u64 n] w [] fun v Fs=> ∃A c,v= .slice A (Sha.ends n).length c/\(Sha.ends n).length<=c/\c<=maxLen/\Fs=[browF z_ab A (Sha.ends n) c]:=by
 have g:=z_mC w (Un [])
 have hz:zeros n<64:=by unfold zeros;omega
 refine z_ad (cx:=z_lF w (Un [])) g z_pM rfl rfl (β:=Va.z) [.c (.v (.int .u64 n))] 0 [] [] rfl rfl (Sat.start rfl) ?_
 intro b0
 refine z_ai (ι:=Nat×Option Addr×Nat) 0 (fun i=>[(0,.c (.v (.int .u64 n))),(3,.c (.v (.slice i.2.1 (i.1+1) i.2.2)))]) (fun _=>[])
  (fun i=>[rowF z_ab 1 (.slice i.2.1 (i.1+1) i.2.2) (i.1+1) (((0x80:UInt8)::List.replicate i.1 0).map byte)])
  (fun i=>i.1<=zeros n/\i.1+1<=i.2.2/\i.2.2<=maxLen) (fun i=>zeros n - i.1) (0,some ⟨b0,0,none⟩,1) ⟨Nat.zero_le _,Nat.le_refl _,by show 1<=maxLen;decide⟩ (Ent.same ⟨rfl,rfl,trivial⟩ rfl) g ?_
 rintro ⟨i,A,c⟩ ⟨hi,hc,hcm⟩
 simp only at hi hc hcm
 obtain ⟨r,hr⟩: ∃r:Nat,(n+(i+1)+8)%64=r:=⟨_,rfl⟩
 refine ⟨((i+1:Nat):Int),by rw [z_aV];omega,((n+(i+1):Nat):Int),by rw [z_aV];omega,((n+(i+1)+8:Nat):Int),by rw [z_aV];omega,by omega,(r:Int),by rw [Int.tmod_eq_emod_of_nonneg (by omega)];omega,?_⟩
 refine BIf.not (BIf.dec (fun h0=>?_) (fun h0=>?_))
 ·have hiz:i=zeros n:=by unfold zeros at *;omega
  refine ⟨((8*n:Nat):Int),by rw [z_aV];omega,?_⟩
  refine z_ac [] (fun β w' hs=>z_vU w' (8*n)) ?_
  rintro v Fs ⟨A2,c2,rfl,h1,h2,rfl⟩
  have hl:(Sha.ends n).length=i+1+8:=by rw [Sha.ends_len,hiz];omega
  refine ⟨1,i+1,(Sha.ends n).length,_,(Sha.long (8*n)).map byte,(Sha.ends n).map byte,rfl,fun β w hs=>z_am (hs.get 0 rfl),z_aq _,hl.symm,by rw [<-List.map_append,hiz];rfl,by rw [z_ag,hl];omega,by show (Sha.ends n).length*1<=_;omega,?_⟩
  intro A' c' h3 h4 _
  intro β w' hs
  exact hs.fin [1] ⟨A',c',rfl,h3,h4,rfl⟩
 ·have hiz:i<zeros n:=by
   rcases Nat.lt_or_ge i (zeros n) with h | h
   ·exact h
   ·exfalso
    apply h0
    have:i=zeros n:=by omega
    subst this
    unfold zeros at hr
    omega
  intro b2
  refine ⟨1,i+1,i+1+1,((0x80:UInt8)::List.replicate i 0).map byte,[(0:UInt8)].map byte,_,rfl,fun β w hs=>z_am (hs.get 0 rfl),z_aq _,rfl,rfl,by rw [z_ag];omega,by show (i+1+1)*1<=_;omega,?_⟩
  intro A' c' h1 h2 _
  refine ⟨(i+1,A',c'),⟨hiz,h1,h2⟩,by show zeros n - (i+1)<zeros n - i;omega,Ent.mk' ⟨rfl,rfl,trivial⟩ rfl (fun β w' hs=>?_)⟩
  have h3:=hs.weaken (List.Sublist.refl _) (List.sublist_cons_self _ _)
  show Sat _ _ _ _ [rowF z_ab 1 (.slice A' (i+1+1) c') (i+1+1) (((0x80:UInt8)::List.replicate (i+1) 0).map byte)] _
  rw [List.replicate_succ',<-List.cons_append,List.map_append]
  exact h3
theorem z_oy (w:World) (A:Option Addr) (l:List UInt8) (c:Nat) (hr:Bs w A l) (hn:l.length<=140737488355328):
  Con Tryz.prog z_fi #[.slice A l.length c] w [] fun v Fs=> ∃A' c',v= .slice A' l.length c'/\l.length<=c'/\c'<=maxLen/\Fs=[browF z_ab A' l c']:=by
 refine z_ad (cx:=z_hA w (Un [])) (z_kn w (Un [])) z_mP rfl rfl (β:=Va.z) [.c (.v (.slice A l.length c))] 0 [] [bsF A l] rfl rfl ((Sat.start rfl).rd (fun _ h=>by cases h) hr) ?_
 refine BIf.mk (fun h=>?_) (fun h=>?_)
 ·intro β w' hs
  have hA:A=none:=by simpa using h
  subst hA
  have hl:l=[]:=by
   cases l with
   | nil=>rfl
   | cons x r=>obtain ⟨ad,q⟩:=Bs.addr hr (by simp);cases q
  subst hl
  exact (hs.nilRow z_ab 1).fin [0] ⟨none,0,rfl,Nat.le_refl _,Nat.zero_le _,rfl⟩
 intro b
 refine ⟨0,0,l.length,[],l.map byte,_,rfl,fun β w hs=>hs.get 1 rfl,z_aq l,Nat.zero_add _,rfl,by rw [z_ag];omega,by show l.length*1<=_;omega,?_⟩
 intro A' c' h1 h2 h3 β w' hs
 exact hs.fin [0] ⟨A',c',rfl,h1,h2,rfl⟩
def blk (q:List UInt8) (i:Nat):List UInt8:=(q.drop (64*i)).take 64
def blks (q:List UInt8) (n:Nat):List (List UInt8):=(List.range n).map (blk q)
theorem z_nw (q:List UInt8) (n:Nat):blks q (n+1)=blks q n++[blk q n]:=by simp [blks,List.range_succ]
theorem go_eq: ∀(n:Nat) (s:S8) (q:List UInt8),go n s q=(blks q n).foldl Sha.step s
 | 0,s,q=>rfl
 | n+1,s,q=>by
  rw [go,go_eq n]
  have:blks q (n+1)=q.take 64::blks (q.drop 64) n:=by
   simp only [blks,List.range_succ_eq_map,List.map_cons,List.map_map]
   congr 1
   refine List.map_congr_left fun i _=>?_
   simp only [Function.comp,blk,List.drop_drop]
   rw [show 64*(i+1)=64+64*i by omega]
  rw [this,List.foldl_cons]
def insB (x:List UInt8) (args:Array Value) (X:Fact):Prop:=x.length=64/\ ∃B,args= #[.slice B 64 64]/\X=bsF B x
theorem z_qV (l:Nat) (w:World) (bx:Nat) (A:Option Addr) (p:List UInt8) (c:Nat) (f0 R:Fact) (J Jx:List (List UInt8)->Fact->Prop) (hJ0:J [] f0) (hJo: ∀pre f,J pre f->f.own=true) (hRo:R.own=false) (hY:Yc Tryz.prog l J Jx R (fun _=>insB))
  (hp:p.length<=70368744177664) (hm:Mem w (f0::R::[bkF bx z_al [.slice A p.length c],bsF A p])):
  Con Tryz.prog z_es #[.func (.yield l) #[] #[],.pointer (some ⟨bx,0,none⟩)] w [f0,bkF bx z_al [.slice A p.length c]]
   (fun _ Fs=> ∃f Fs',Fs=f::Fs'/\((∃xs,J xs f/\xs=blks (p++ends p.length) ((p++ends p.length).length/64)/\Fs'=[])\/(∃pre,Jx pre f/\Fs'=[]))):=by
 have g:=z_jM w (Un [f0,bkF bx z_al [.slice A p.length c]]) [bx]
 have hs0:Sat (z_dJ w (Un [f0,bkF bx z_al [.slice A p.length c]]) [bx]) (Va.of fun _=>bx) 1 [] (f0::R::[bkF bx z_al [.slice A p.length c],bsF A p]) w:=by
  refine hm.sat rfl (fun f hf ho k hk=>?_) ⟨Nat.le_refl 1,fun i hi=>by obtain rfl:i=0:=Nat.lt_one_iff.1 hi;rfl⟩
  simp only [List.mem_cons,List.not_mem_nil,or_false] at hf
  rcases hf with rfl | rfl | rfl | rfl
  ·exact ⟨_,by simp,hk⟩
  ·rw [hRo] at ho;cases ho
  ·exact ⟨_,by simp,hk⟩
  ·cases ho
 have hs1:=hs0.toBk 2 rfl 0 Nat.zero_lt_one rfl
 have hf0:=hJo _ _ hJ0
 refine z_ad (cx:=z_dJ w (Un [f0,bkF bx z_al [.slice A p.length c]]) [bx]) g z_l2 rfl rfl (β:=Va.of fun _=>bx) [.c (.v (.func (.yield l) #[] #[])),.c (.p 0 0)] 1 [⟨0,z_al,[.v (.slice A p.length c)]⟩] [f0,R,bsF A p] rfl rfl hs1 ?_
 refine z_ak g z_kh (by kernel_rfl) [⟨0,z_al,[.v (.slice A p.length c)]⟩] [f0,R,bsF A p] Sub.refl ?_
 refine ⟨((p.length:Nat):Int),by rw [z_aV];omega,?_⟩
 refine z_ac [] (fun β w' hs=>z_oy w' A p c (hs.get 2 rfl) (by omega)) ?_
 rintro v Fs ⟨A1,c1,rfl,h1,h2,rfl⟩
 refine ⟨Sub.dropF 1 rfl,?_⟩
 refine z_ac [] (fun β w' hs=>z_vu w' p.length (by omega)) ?_
 rintro v Fs ⟨A2,c2,rfl,h3,h4,rfl⟩
 refine ⟨Sub.dropF 2 rfl,?_⟩
 obtain ⟨q,hq⟩: ∃q,p++ends p.length=q:=⟨_,rfl⟩
 have hql:q.length=p.length+(ends p.length).length:=by rw [<-hq,List.length_append]
 have hel:(ends p.length).length<73:=by rw [Sha.ends_len];unfold zeros;omega
 have hqm:q.length%64=0:=by rw [<-hq];exact Sha.pad_mod p
 rw [hq]
 refine ⟨1,p.length,q.length,_,(ends p.length).map byte,q.map byte,rfl,fun β w hs=>z_am (hs.get 0 rfl),z_aq _,hql.symm,by rw [<-hq,List.map_append],by rw [z_ag];omega,by show q.length*1<=_;omega,?_⟩
 intro A3 c3 h5 h6 _
 refine ⟨Sub.dropF 2 rfl,?_⟩
 refine z_ai (ι:=Nat×Option Addr×Nat×Fact) 1 (fun i=>[(0,.c (.v (.func (.yield l) #[] #[]))),(3,.c (.v (.slice i.2.1 (q.length - 64*i.1) i.2.2.1)))]) (fun _=>[⟨0,z_al,[.v (.slice A p.length c)]⟩])
  (fun i=>[browF z_ab A3 q c3,i.2.2.2,R])
  (fun i=>64*i.1<=q.length/\q.length - 64*i.1<=i.2.2.1/\i.2.2.1<=maxLen/\J (blks q i.1) i.2.2.2/\(∀w,Bs w A3 q->Bs w i.2.1 (q.drop (64*i.1)))/\(∀ad,i.2.1=some ad-> ∃ad3,A3=some ad3/\ad.block=ad3.block)) (fun i=>q.length - 64*i.1) (0,A3,c3,f0)
  ⟨Nat.zero_le _,h5,h6,hJ0,fun w h=>h,fun ad h=>⟨ad,h,rfl⟩⟩ (Ent.mk' ⟨rfl,rfl,trivial⟩ rfl (fun β w' hs=>hs.weaken (List.Sublist.refl _) (List.Sublist.cons _ (List.Sublist.cons_cons _ (List.Sublist.cons_cons _ (List.Sublist.cons_cons _ (List.nil_sublist _))))))) g ?_
 rintro ⟨i,B,cap,f⟩ ⟨hi,hcap,hcm,hJ,hB,hBD⟩
 simp only at hi hcap hcm hJ hB hBD
 have hfo:=hJo _ _ hJ
 obtain ⟨m,hm⟩: ∃m,q.length - 64*i=m:=⟨_,rfl⟩
 have hmc:m<=cap:=by omega
 rw [hm]
 have hdl:(q.drop (64*i)).length=m:=by rw [List.length_drop];omega
 refine BIf.dec (fun h0=>?_) (fun h0=>?_)
 ·have hm64:64<=m:=by omega
  have hbl:(blk q i).length=64:=by unfold blk;rw [List.length_take,hdl];omega
  refine ⟨64,64,0,64,64,_,rfl,rfl,rfl,by show 64<=cap;omega,by omega,by omega,rfl,rfl,rfl,?_⟩
  have hcutD: ∀k,(bsF (cutA B 64 0 1) (blk q i)).D k->(browF z_ab A3 q c3).D k:=by
   rintro k ⟨_,ad,had,rfl⟩
   simp only [cutA] at had
   rw [if_neg (by decide)] at had
   cases B with
   | none=>cases had
   | some ad0=>
    obtain rfl:ad0.add (0*1)=ad:=by simpa using had
    obtain ⟨ad3,h7,h8⟩:=hBD ad0 rfl
    subst h7
    have:(ad0.add (0*1)).block=ad0.block:=by unfold Addr.add;split<;>rfl
    show some ad3.block=some (ad0.add (0*1)).block
    rw [this,h8]
  refine z_bq (x:=blk q i) (X:=bsF (cutA B 64 0 1) (blk q i)) hY 1 2 rfl hJ hfo rfl hRo (by decide) (fun β=>⟨hbl,_,rfl,rfl⟩) rfl (fun β w' hs=>⟨?_,fun k hk=>hs.getLt 0 rfl k (hcutD k hk),fun k hk hk'=>?_⟩) ?_ ?_
  ·have h7:=Bs.cut (hB w' (z_am (hs.get 0 rfl))) (c:=cap) (m:=64) (i:=0) (j:=64) (by omega) (.inr (Nat.le_refl _)) (by omega) (by omega) (by omega)
   have h8:Rd 1 (cutA B 64 0 1) (blk q i).length ((blk q i).map byte) w':=by rw [hbl];exact h7
   exact h8
  ·exact hs.apart (i:=1) (j:=0) rfl rfl (by decide) (.inr rfl) k hk (hcutD k hk')
  ·intro f2 hfo2 hJ2
   refine ⟨cap,m,64,m - 64,cap - 64,_,rfl,rfl,rfl,Nat.le_refl _,hmc,hm64,rfl,rfl,rfl,?_⟩
   refine ⟨(i+1,cutA B cap 64 1,cap - 64,f2),⟨by show 64*(i+1)<=_;omega,by show q.length - 64*(i+1)<=cap - 64;omega,by show cap - 64<=_;omega,by show J (blks q (i+1)) f2;rw [z_nw];exact hJ2,fun w' h=>?_,fun ad had=>?_⟩,by show q.length - 64*(i+1)<m;omega,Ent.mk' ⟨rfl,?_,trivial⟩ rfl (fun β w' hs=>?_)⟩
   ·have h7:=Bs.cutB (hB w' h) (c:=cap) (i:=64) (j:=m) (m:=q.drop (64*(i+1))) (by omega) hm64 (by omega) (by
     rw [List.drop_drop,show 64*i+64=64*(i+1) by omega,List.take_of_length_le]
     rw [List.length_drop];omega)
    exact h7
   ·have had':cutA B cap 64 1=some ad:=had
    unfold cutA at had'
    split at had'
    ·exact hBD ad had'
    ·cases B with
     | none=>cases had'
     | some ad0=>
      obtain rfl:ad0.add (64*1)=ad:=by simpa using had'
      obtain ⟨ad3,h7,h8⟩:=hBD ad0 rfl
      refine ⟨ad3,h7,?_⟩
      rw [<-h8]
      unfold Addr.add;split<;>rfl
   ·show _=some (SV.c (.v (.slice _ (q.length - 64*(i+1)) _)))
    rw [show q.length - 64*(i+1)=m - 64 by omega]
    rfl
   ·exact (hs.keepB (List.Sublist.refl _)).perm [1,0,2]
  ·intro f2 hfo2 hJ2 β w' hs
   exact hs.fin [0] ⟨f2,[],rfl,.inr ⟨_,hJ2,rfl⟩⟩ rfl rfl rfl ⟨hfo2,trivial⟩
 ·have hi2:i=q.length/64:=by omega
  intro β w' hs
  exact hs.fin [1] ⟨f,[],rfl,.inl ⟨_,hJ,by rw [hi2],rfl⟩⟩ rfl rfl rfl ⟨hfo,trivial⟩
theorem z_gX {e size k n c:Nat} {A:Option Addr} {xs ys:List Value}: ∀g,(rdF size A k xs).D g->(rowF e size (.slice A n c) n ys).D g:=by
 rintro g ⟨_,ad,rfl,rfl⟩
 rfl
theorem Mem.lastRd {w:World} {f R X:Fact} {e c:Nat} {A:Option Addr} {l:List UInt8} (h:Mem w [f,R,X,browF e A l c]):Mem w [f,R,X,bsF A l]:=by
 have hp:Bs w A l:=z_am (h.fact (browF e A l c) (by simp))
 refine ⟨fun g hg=>?_,fun g hg k hk=>?_,?_⟩
 ·simp only [List.mem_cons,List.not_mem_nil,or_false] at hg
  rcases hg with rfl | rfl | rfl | rfl
  ·exact h.fact _ (by simp)
  ·exact h.fact _ (by simp)
  ·exact h.fact _ (by simp)
  ·exact hp
 ·simp only [List.mem_cons,List.not_mem_nil,or_false] at hg
  rcases hg with rfl | rfl | rfl | rfl
  ·exact h.flt g (by simp) k hk
  ·exact h.flt g (by simp) k hk
  ·exact h.flt g (by simp) k hk
  ·exact h.flt (browF e A l c) (by simp) k (z_gX k hk)
 ·obtain ⟨h1,h2⟩:=List.pairwise_cons.1 h.sepf
  obtain ⟨h3,h4⟩:=List.pairwise_cons.1 h2
  obtain ⟨h5,_⟩:=List.pairwise_cons.1 h4
  refine List.pairwise_cons.2 ⟨fun g hg ho=>?_,List.pairwise_cons.2 ⟨fun g hg ho=>?_,List.pairwise_cons.2 ⟨fun g hg ho=>?_,List.pairwise_singleton _ _⟩⟩⟩
  ·simp only [List.mem_cons,List.not_mem_nil,or_false] at hg
   rcases hg with rfl | rfl | rfl
   ·exact h1 _ (by simp) ho
   ·exact h1 _ (by simp) ho
   ·exact fun k hk q=>h1 (browF e A l c) (by simp) (.inr rfl) k hk (z_gX k q)
  ·simp only [List.mem_cons,List.not_mem_nil,or_false] at hg
   rcases hg with rfl | rfl
   ·exact h3 _ (by simp) ho
   ·exact fun k hk q=>h3 (browF e A l c) (by simp) (.inr rfl) k hk (z_gX k q)
  ·obtain rfl:=List.mem_singleton.1 hg
   exact fun k hk q=>h5 (browF e A l c) (by simp) (.inr rfl) k hk (z_gX k q)
theorem z_tb (w:World) (A:Option Addr) (n c:Nat):Con Tryz.prog z_j8 #[.slice A n c] w [] (fun v Fs=> ∃bx,v= .func (.func z_es) #[] #[.pointer (some ⟨bx,0,none⟩)]/\Fs=[bkF bx z_al [.slice A n c]]):=by
 refine z_ad (cx:=z_iG w (Un [])) (z_k0 w (Un [])) z_oc rfl rfl (β:=Va.z) [.c (.v (.slice A n c))] 0 [] [] rfl rfl (Sat.start rfl) ?_
 intro β w' hs
 exact hs.ofBk.fin [0] ⟨β 0,rfl,rfl⟩
theorem z_uZ (w:World) (P A:Option Addr) (cP c:Nat) (l:List UInt8) (hP:Rd 1 P 1 [.slice A l.length c] w) (hr:Bs w A l) (hn:l.length<=140737488355328):
  Con Tryz.prog z_jQ #[.slice P 1 cP,.slice none 0 0] w [] fun v Fs=> ∃A' c',v= .slice A' l.length c'/\l.length<=c'/\c'<=maxLen/\Fs=[browF z_ab A' l c']:=by
 have hs0:Sat (z_fs w (Un [])) Va.z 0 [] [oldF w] w:=z_aw rfl
 refine z_ad (cx:=z_fs w (Un [])) (z_lf w (Un [])) z_nZ rfl rfl (β:=Va.z) [.c (.v (.slice P 1 cP)),.c (.v (.slice none 0 0))] 0 [] [browF z_ab none [] 0,oldF w] rfl rfl (hs0.nilRow _ _) ?_
 obtain ⟨ad,rfl,hc⟩:=hP.2 (by decide)
 refine ⟨ad,0,rfl,rfl,by decide,.slice A l.length c,fun β w' hs=>?_,?_⟩
 ·have h1:Rd 1 (some ad) 1 [.slice A l.length c] w':=hP.old (hs.get 1 rfl)
  obtain ⟨ad',h2,h3⟩:=h1.2 (by decide)
  obtain rfl:=Option.some.inj h2
  exact h3 0 _ rfl
 refine ⟨0,0,l.length,[],l.map byte,_,rfl,fun β w' hs=>hr.old (hs.get 1 rfl),z_aq l,Nat.zero_add _,rfl,by rw [z_ag];omega,by show l.length*1<=_;omega,?_⟩
 intro A' c' h1 h2 h3 β w' hs
 exact hs.fin [0] ⟨A',c',rfl,h1,h2,rfl⟩
theorem z_sM (w:World) (b ty:Nat) (s:S8) (A:Option Addr) (x:List UInt8) (hx:x.length=64) (hm:Mem w [stF b ty s,bsF A x,oddF 2]):
  Con Tryz.prog z_cV #[.pointer (some ⟨b,0,none⟩),.slice A 64 64] w [stF b ty s] fun v Fs=>v= .tuple #[]/\Fs=[stF b ty (Sha.step s x)]:=by
 have:=z_vv w b ty s A x 64 hm (by omega) (by omega) (by decide)
 rw [hx] at this
 exact this
def firstF (g:Nat):Fact:=rdF 1 (some ⟨g,0,none⟩) 8 (Sha.first.l.map u32)
theorem z_vJ (w:World) (P A:Option Addr) (cP c:Nat) (l:List UInt8) (hP:Rd 1 P 1 [.slice A l.length c] w) (hr:Bs w A l) (hn:l.length<=70368744177664) (h1:(oddF 2).p w) (h0:(firstF 0).p w):
  Con Tryz.prog z_n1 #[.slice P 1 cP] w [] fun v Fs=> ∃A' c',v= .slice A' 32 c'/\32<=c'/\c'<=maxLen/\Fs=[browF z_ab A' (Sha.sum l) c']:=by
 have g:=z_nT w (Un [])
 have hs0:Sat (z_gV w (Un [])) Va.z 0 [] [oldF w] w:=z_aw rfl
 have hs1:Sat (z_gV w (Un [])) Va.z 0 [] [oddF 2,oldF w] w:=hs0.sub 0 rfl rfl _ rfl h1 (rd_lt h1)
 refine z_ad (cx:=z_gV w (Un [])) g z_sb rfl rfl (β:=Va.z) [.c (.v (.slice P 1 cP))] 0 [] [oddF 2,oldF w] rfl rfl hs1 ?_
 refine ⟨Sha.first.l.map u32,rfl,fun β w' hs j u hu=>?_,?_⟩
 ·have h2:Rd 1 (some ⟨0,0,none⟩) 8 (Sha.first.l.map u32) w':=Rd.old h0 (hs.get 1 rfl)
  obtain ⟨ad,h3,h4⟩:=h2.2 (by decide)
  obtain rfl:=Option.some.inj h3
  exact h4 j u hu
 refine z_ac [] (fun β w' hs=>z_uZ w' P A cP c l (hP.old (hs.get 1 rfl)) (hr.old (hs.get 1 rfl)) (by omega)) ?_
 rintro v Fs ⟨A1,c1,rfl,h2,h3,rfl⟩
 refine z_ac [] (fun β w' hs=>z_tb w' A1 l.length c1) ?_
 rintro v Fs ⟨bx,rfl,rfl⟩
 refine z_ds g 0 (fun _=>Sha.first.l.map u32) rfl rfl (fun _=>rfl) (fun sb=>?_)
 obtain ⟨q,hq⟩: ∃q,l++ends l.length=q:=⟨_,rfl⟩
 have hsum:Sha.sum l=out ((blks q (q.length/64)).foldl Sha.step Sha.first):=by rw [<-go_eq,<-hq];rfl
 rw [hsum]
 refine z_aB (α:=List UInt8) (ι:=S8) (κ:=S8) g rfl (cv:=[.pointer (some ⟨bx,0,none⟩)]) rfl (by kernel_rfl) 1 (Nat.le_refl 1)
  (fun pre s=>s=pre.foldl Sha.step Sha.first) (fun _=>[]) (fun s=>[stF sb 170 s]) (fun _=>⟨rfl,trivial⟩)
  (fun _ _ _=>False) (fun _=>[]) (fun _=>[]) (fun _=>trivial)
  [bkF bx z_al [.slice A1 l.length c1]] [browF z_ab A1 l c1] [oddF 2] ⟨rfl,trivial⟩ (fun g hg=>by obtain rfl:=List.mem_singleton.1 hg;rfl)
  Sha.first rfl (fun β w' hs=>⟨β,Agr.refl _ _,hs.perm [1,2,0,3]⟩) (fun _=>insB)
  (fun xs Fs'=>xs=blks q (q.length/64)/\Fs'=[]) (fun _ Fs'=>Fs'=[])
  (fun l' w' f0 R J Jx hJ0 hJo hRo hY hm=>(z_qV l' w' bx A1 l c1 f0 R J Jx hJ0 hJo hRo hY hn hm.lastRd).mono fun _ Fs h=>by rw [hq] at h;exact h) ?_ ?_ ?_
 ·rintro s pre x args X W S l' bs pn pn' hbs hpre ⟨hx,B,rfl,rfl⟩
  refine ⟨_,rfl,?_⟩
  refine z_ac [1] (fun β w' hs=>z_sM w' sb 170 s B x hx (hs.mem.take (js:=[1,0,2]) rfl)) ?_
  rintro v Fs ⟨rfl,rfl⟩
  refine ⟨Sha.step s x,by show Sha.step s x=(pre++[x]).foldl Sha.step Sha.first;rw [List.foldl_append,hpre];rfl,Ent.mk' trivial rfl (fun β w' hs=>?_)⟩
  exact hs.weaken (List.Sublist.refl _) (List.Sublist.cons_cons _ (List.nil_sublist _))
 ·rintro xs s Fs hpre ⟨rfl,rfl⟩
  refine z_ac [0] (fun β w' hs=>z_q6 w' sb 170 s (hs.mem.take (js:=[0]) rfl)) ?_
  rintro v Fs ⟨A3,c3,rfl,h5,h6,rfl⟩
  intro β w' hs
  refine hs.fin [1] ⟨A3,c3,rfl,h5,h6,?_⟩
  rw [<-hpre]
  rfl
 ·rintro e pre s Fs h _
  exact h.elim
def stV (s:S8):Value:= .agg (s.l.map u32).toArray
theorem be4 (x:UInt32):be 4 x.toNat=b4 x:=by
 have hx:=x.toNat_lt
 simp only [be,b4,List.nil_append,List.cons_append]
 have e: ∀n,n<256-> ∀y:UInt8,y.toNat=n->UInt8.ofNat n=y:=fun n _ y h=>by rw [<-h,UInt8.ofNat_toNat]
 have h1: ∀k:Nat,k<32->(x>>>UInt32.ofNat k).toNat=x.toNat/2^k:=fun k hk=>by
  rw [UInt32.toNat_shiftRight,UInt32.toNat_ofNat',Nat.mod_eq_of_lt (show k<2^32 by omega),Nat.mod_eq_of_lt hk,Nat.shiftRight_eq_div_pow]
 congr 1
 ·exact e _ (by omega) _ (by rw [UInt32.toNat_toUInt8,show (24:UInt32)=UInt32.ofNat 24 from rfl,h1 24 (by omega)]<;>omega)
 congr 1
 ·exact e _ (by omega) _ (by rw [UInt32.toNat_toUInt8,show (16:UInt32)=UInt32.ofNat 16 from rfl,h1 16 (by omega)]<;>omega)
 congr 1
 ·exact e _ (by omega) _ (by rw [UInt32.toNat_toUInt8,show (8:UInt32)=UInt32.ofNat 8 from rfl,h1 8 (by omega)]<;>omega)
 congr 1
 exact e _ (by omega) _ (by rw [UInt32.toNat_toUInt8])
theorem z_r0 (n:Nat):UInt8.ofNat (n%256)=UInt8.ofNat n:=by
 apply UInt8.toNat_inj.1
 rw [UInt8.toNat_ofNat',UInt8.toNat_ofNat']
 omega
theorem be8 (n:Nat):be 8 n=Sha.long n:=by
 simp only [be,Sha.long,List.nil_append,List.cons_append,z_r0,List.map_cons,List.map_nil,Nat.div_div_eq_div_mul]
 simp
theorem z_uG (w:World):Pu Tryz.prog z_dd #[] w (stV Sha.first):=by
 refine pu_of (z_aL (cx:=z_cS w None_) (z_fd w None_) z_hk rfl rfl (β:=Va.z) [] 0 [] [] rfl rfl (Sat.start rfl) ?_)
 intro β w' hs
 exact ⟨rfl,hs.chg⟩
theorem z_t7 (w:World) (n k:Nat) (hn:n<18446744073709551616) (hk:k<=4096):
  Con Tryz.prog z_bx #[.int .u64 n,.int .i64 k] w [] fun v Fs=> ∃A c,v= .slice A (be k n).length c/\(be k n).length<=c/\c<=maxLen/\Fs=[browF z_ab A (be k n) c]:=z_uh (z_uo w n k hn hk)
theorem z_vG (w:World) (n:Nat) (hn:n<=140737488355328):
  Con Tryz.prog z_dG #[.int .u64 n] w [] fun v Fs=> ∃A c,v= .slice A (Sha.ends n).length c/\(Sha.ends n).length<=c/\c<=maxLen/\Fs=[browF z_ab A (Sha.ends n) c]:=by
 have g:=z_f4 w (Un [])
 have hz:zeros n<64:=by unfold zeros;omega
 refine z_ad (cx:=z_db w (Un [])) g z_hY rfl rfl (β:=Va.z) [.c (.v (.int .u64 n))] 0 [] [] rfl rfl (Sat.start rfl) ?_
 intro b0
 refine ⟨by decide,((n%64:Nat):Int),by rw [Int.tmod_eq_emod_of_nonneg (by omega)];omega,((n%64+1:Nat):Int),by rw [z_aV];omega,?_⟩
 refine z_ai (ι:=Nat×Option Addr×Nat) 0 (fun i=>[(0,.c (.v (.int .u64 n))),(4,.c (.v (.int .u64 ((n%64+1+i.1:Nat):Int)))),(3,.c (.v (.slice i.2.1 (i.1+1) i.2.2)))]) (fun _=>[])
  (fun i=>[rowF z_ab 1 (.slice i.2.1 (i.1+1) i.2.2) (i.1+1) (((0x80:UInt8)::List.replicate i.1 0).map byte)])
  (fun i=>i.1<=zeros n/\i.1+1<=i.2.2/\i.2.2<=maxLen) (fun i=>zeros n - i.1) (0,some ⟨b0,0,none⟩,1) ⟨Nat.zero_le _,Nat.le_refl _,by show 1<=maxLen;decide⟩ (Ent.same ⟨rfl,rfl,rfl,trivial⟩ rfl) g ?_
 rintro ⟨i,A,c⟩ ⟨hi,hc,hcm⟩
 simp only at hi hc hcm
 obtain ⟨r,hr⟩: ∃r:Nat,(n%64+1+i)%64=r:=⟨_,rfl⟩
 refine ⟨by decide,(r:Int),by dsimp only;rw [Int.tmod_eq_emod_of_nonneg (by omega)];omega,?_⟩
 refine BIf.not (BIf.dec (fun h0=>?_) (fun h0=>?_))
 ·have hiz:i=zeros n:=by unfold zeros at *;omega
  refine ⟨((8*n:Nat):Int),by rw [z_aV];omega,?_⟩
  refine z_ac [] (fun β w' hs=>z_t7 w' (8*n) 8 (by omega) (by omega)) ?_
  rintro v Fs ⟨A2,c2,rfl,h1,h2,rfl⟩
  have hl:(Sha.ends n).length=i+1+8:=by rw [Sha.ends_len,hiz];omega
  refine ⟨1,i+1,(Sha.ends n).length,_,(be 8 (8*n)).map byte,(Sha.ends n).map byte,rfl,fun β w hs=>z_am (hs.get 0 rfl),z_aq _,by rw [z_gD];exact hl.symm,by rw [<-List.map_append,be8,hiz];rfl,by rw [z_ag,hl];omega,by show (Sha.ends n).length*1<=_;omega,?_⟩
  intro A' c' h3 h4 _
  intro β w' hs
  exact hs.fin [1] ⟨A',c',rfl,h3,h4,rfl⟩
 ·have hiz:i<zeros n:=by
   rcases Nat.lt_or_ge i (zeros n) with h | h
   ·exact h
   ·exfalso
    apply h0
    have:i=zeros n:=by omega
    subst this
    unfold zeros at hr
    omega
  intro b2
  refine ⟨1,i+1,i+1+1,((0x80:UInt8)::List.replicate i 0).map byte,[(0:UInt8)].map byte,_,rfl,fun β w hs=>z_am (hs.get 0 rfl),z_aq _,rfl,rfl,by rw [z_ag];omega,by show (i+1+1)*1<=_;omega,?_⟩
  intro A' c' h1 h2 _
  refine ⟨((n%64+1+(i+1):Nat):Int),by dsimp only;rw [z_aV];omega,?_⟩
  refine ⟨(i+1,A',c'),⟨hiz,h1,h2⟩,by show zeros n - (i+1)<zeros n - i;omega,Ent.mk' ⟨rfl,rfl,rfl,trivial⟩ rfl (fun β w' hs=>?_)⟩
  have h3:=hs.weaken (List.Sublist.refl _) (List.sublist_cons_self _ _)
  show Sat _ _ _ _ [rowF z_ab 1 (.slice A' (i+1+1) c') (i+1+1) (((0x80:UInt8)::List.replicate (i+1) 0).map byte)] _
  rw [List.replicate_succ',<-List.cons_append,List.map_append]
  exact h3
theorem out_c (w:World) (s:S8):
  Con Tryz.prog z_ef #[stV s] w [] fun v Fs=> ∃A c,v= .slice A 32 c/\32<=c/\c<=maxLen/\Fs=[browF z_ab A (out s) c]:=by
 have g:=z_ga w (Un [])
 refine z_ad (cx:=z_d4 w (Un [])) g z_iM rfl rfl (β:=Va.z) [.agg (s.l.map sl32)] 0 [] [browF z_ab none [] 0] rfl rfl ((Sat.start rfl).nilRow _ _) ?_
 refine z_ai (ι:=Nat×Option Addr×Nat) 1 (fun i=>[(6,.agg (s.l.map sl32)),(7,.c (.v (.int .i64 i.1))),(3,.c (.v (.slice i.2.1 (4*i.1) i.2.2)))]) (fun _=>[⟨0,118,s.l.map sl32⟩])
  (fun i=>[rowF z_ab 1 (.slice i.2.1 (4*i.1) i.2.2) (4*i.1) ((outN s i.1).map byte)])
  (fun i=>i.1<=8/\4*i.1<=i.2.2/\i.2.2<=maxLen) (fun i=>8 - i.1) (0,none,0) ⟨Nat.zero_le _,Nat.zero_le _,Nat.zero_le _⟩ (Ent.same ⟨rfl,rfl,rfl,trivial⟩ rfl) g ?_
 rintro ⟨i,A,c⟩ ⟨hi,hc,hcm⟩
 simp only at hi hc hcm
 refine BIf.dec (fun hlt=>?_) (fun hge=>?_)
 ·have hlt:i<8:=by omega
  obtain ⟨x,hx⟩: ∃x,s.l.getD i 0=x:=⟨_,rfl⟩
  have hxl:=x.toNat_lt
  refine ⟨i,sl32 x,rfl,hlt,by show (s.l.map sl32)[i*1]?=_;rw [Nat.mul_one,<-hx];exact l_get s i hlt,?_⟩
  refine ⟨(x.toNat:Int),by rw [z_aV];omega,?_⟩
  refine z_ac [] (fun β w' hs=>z_t7 w' x.toNat 4 (by omega) (by omega)) ?_
  rintro v Fs ⟨A2,c2,rfl,h1,h2,rfl⟩
  refine ⟨1,4*i,4*(i+1),(outN s i).map byte,(b4 x).map byte,_,rfl,fun β w hs=>by rw [<-be4];exact z_am (hs.get 0 rfl),z_aq _,by rw [z_gD];omega,rfl,by rw [z_ag];omega,by show 4*(i+1)*1<=_;omega,?_⟩
  intro A' c' h3 h4 _
  refine ⟨((i+1:Nat):Int),by rw [wrap_i64 (by omega) (by omega)];rfl,?_⟩
  refine ⟨(i+1,A',c'),⟨by show i+1<=8;omega,h3,h4⟩,by show 8 - (i+1)<8 - i;omega,Ent.mk' ⟨rfl,rfl,rfl,trivial⟩ rfl (fun β w' hs=>?_)⟩
  have e1:=z_nE s i hlt
  rw [hx] at e1
  have h5:=hs.weaken (List.Sublist.refl _) (List.sublist_cons_self _ _)
  show Sat _ _ _ _ [rowF z_ab 1 (.slice A' (4*(i+1)) c') (4*(i+1)) ((outN s (i+1)).map byte)] _
  rw [<-e1,List.map_append]
  exact h5
 ·obtain rfl:i=8:=by omega
  intro β w' hs
  exact (hs.keepB (List.nil_sublist _)).fin [0] ⟨A,c,rfl,hc,hcm,rfl⟩
theorem take4 (l:List UInt8) (k:Nat) (h:k+4<=l.length):(l.drop k).take 4=[l.getD k 0,l.getD (k+1) 0,l.getD (k+2) 0,l.getD (k+3) 0]:=by
 refine List.ext_getElem? fun j=>?_
 rw [List.getElem?_take]
 have g: ∀j,j<4->(l.drop k)[j]?=some (l.getD (k+j) 0):=fun j hj=>z_gQ l k j (by omega)
 match j with
 | 0=>simpa using g 0 (by omega)
 | 1=>simpa using g 1 (by omega)
 | 2=>simpa using g 2 (by omega)
 | 3=>simpa using g 3 (by omega)
 | n+4=>simp;omega
theorem numB4 (a b c d:UInt8):IntKind.u32.wrap (numB [a,b,c,d]:Int)=((word a b c d).toNat:Int):=by
 have h1:=a.toNat_lt
 have h2:=b.toNat_lt
 have h3:=c.toNat_lt
 have h4:=d.toNat_lt
 have:numB [a,b,c,d]=a.toNat *16777216+b.toNat *65536+c.toNat *256+d.toNat:=by
  simp only [numB,List.foldl_cons,List.foldl_nil]
  omega
 rw [this,z_mf]
 rfl
theorem z_vI (a b c d:UInt32):((d+c)+b)+a=a+b+c+d:=by ac_rfl
theorem z_rZ {g:Nat} {w:World} (h:(oddF g).p w) {i:Nat} (hi:i<64):w.cell? ((⟨g,0,none⟩:Addr).add (i*1))=some (u32 (K.getD i 0)):=z_pp h hi
theorem z_us (w:World) (s:S8) (A:Option Addr) (l:List UInt8) (c:Nat) (hr:Bs w A l) (hk:(oddF 1).p w) (hc:l.length<=c) (hl:64<=l.length) (hm:c<=maxLen):
  Pu Tryz.prog z_bL #[stV s,.slice A l.length c] w (stV (Sha.step s l)):=by
 have g:=z_fZ w (Un [])
 obtain ⟨ws,hws⟩: ∃ws,W l=ws:=⟨_,rfl⟩
 have hwl:ws.length=64:=by rw [<-hws];exact W_len l
 have hst0:Sha.step s l=s.add (rounds s ws 64):=by rw [Sha.step,hws]
 rw [hst0]
 have hs0:Sat (z_aG w (Un [])) Va.z 0 [] [oldF w] w:=z_aw rfl
 have hs1:Sat (z_aG w (Un [])) Va.z 0 [] [bsF A l,oddF 1,oldF w] w:=(hs0.sub 0 rfl rfl (oddF 1) rfl hk (rd_lt hk)).sub 1 rfl rfl (bsF A l) rfl hr (rd_lt hr)
 rw [z_ag] at hm
 refine z_ad (cx:=z_aG w (Un [])) g z_ie rfl rfl (β:=Va.z) [.agg (s.l.map sl32),.c (.v (.slice A l.length c))] 0 [] [bsF A l,oddF 1,oldF w] rfl rfl hs1 ?_
 have e0:arr 64 []=ti212.zero.map SL.v:=by simp only [arr,List.nil_append,List.length_nil,List.map_replicate];rfl
 refine z_ai (ι:=Nat) 3 (fun i=>[(1,.c (.v (.slice A l.length c))),(2,.c (.p 0 0)),(4,.c (.p 1 0)),(5,.c (.p 2 0)),(6,.c (.v (.int .i64 i)))]) (fun i=>[⟨2,212,arr 64 (sched l i)⟩,⟨1,118,ti118.zero.map SL.v⟩,⟨0,118,s.l.map sl32⟩]) (fun _=>[bsF A l,oddF 1,oldF w])
  (fun i=>i<=64) (fun i=>64 - i) 0 (Nat.zero_le _) (Ent.mk' ⟨rfl,rfl,rfl,rfl,rfl,trivial⟩ rfl (fun β w' hs=>by rw [show sched l 0=[] from rfl,e0];exact hs)) g ?_
 intro i hi
 refine BIf.dec (fun hlt=>?_) (fun hge=>?_)
 ·have hlt:i<64:=by omega
  have hsl:(sched l i).length=i:=z_dY l i
  have ld: ∀ {k:Nat},k<i->nth (arr 64 (sched l i)) (0+k*1)=some (sl32 ((sched l i).getD k 0)):=fun {k} hk=>by
   rw [z_ax,Nat.zero_add,Nat.mul_one];exact z_qZ (by omega)
  have fin: ∀(x:UInt32),(if i<16 then wordAt l i else nxt (sched l i) i)=x->putAll (arr 64 (sched l i)) (0+i*1) [sl32 x]=arr 64 (sched l (i+1)):=fun x hx=>by
   rw [putAll,putAll,z_aC,Nat.zero_add,Nat.mul_one]
   have:=z_oI (n:=64) (ws:=sched l i) (by omega) x
   rw [hsl] at this
   rw [this,sched,hx]
  have ble:Nat.ble (0+i*1+1) (arr 64 (sched l i)).length=true:=by rw [z_oT (by omega),Nat.ble_eq];omega
  refine BIf.dec (fun h16=>?_) (fun h16=>?_)
  ·have h16:i<16:=by omega
   refine ⟨((4*i:Nat):Int),by rw [wrap_i64 (by omega) (by omega)];omega,((4*i:Nat):Int),by rw [wrap_i64 (by omega) (by omega)];omega,((4*i+4:Nat):Int),by rw [wrap_i64 (by omega) (by omega)];omega,?_⟩
   refine ⟨c,4*i+4,4*i,4,c - 4*i,_,rfl,rfl,rfl,Nat.le_refl _,by omega,by omega,by omega,rfl,rfl,?_⟩
   refine z_af (fun β w' hs=>pu_of (num_c w' (cutA A c (4*i) 1) [l.getD (4*i) 0,l.getD (4*i+1) 0,l.getD (4*i+2) 0,l.getD (4*i+3) 0] (c - 4*i) ?_ (by show 4<=lim;decide))) ?_
   ·have h7:=Bs.cut (hs.get 0 rfl:Bs w' A l) (c:=c) (m:=c) (i:=4*i) (j:=4*i+4) hc (.inl rfl) (by omega) (by omega) (Nat.le_refl _)
    rw [show 4*i+4 - 4*i=4 by omega,take4 l (4*i) (by omega)] at h7
    exact h7
   refine ⟨_,numB4 _ _ _ _,i,rfl,by omega,?_⟩
   conv=>whnf
   generalize h1:Nat.ble _ _=b1
   obtain rfl:b1=true:=h1.symm.trans ble
   clear h1
   refine ⟨((i+1:Nat):Int),by rw [wrap_i64 (by omega) (by omega)];rfl,?_⟩
   refine ⟨i+1,by omega,by omega,Ent.mk' ⟨rfl,rfl,rfl,rfl,rfl,trivial⟩ rfl (fun β w' hs=>?_)⟩
   rw [<-fin _ (if_pos h16)]
   exact hs
  ·have h16: ¬i<16:=by omega
   obtain ⟨xa,hxa⟩: ∃xa,(sched l i).getD (i - 15) 0=xa:=⟨_,rfl⟩
   obtain ⟨xb,hxb⟩: ∃xb,(sched l i).getD (i - 2) 0=xb:=⟨_,rfl⟩
   refine z_ak g z_gR (by kernel_rfl) _ _ Sub.refl ?_
   refine ⟨((i - 15:Nat):Int),by rw [wrap_i64 (by omega) (by omega)];omega,i - 15,rfl,by omega,?_⟩
   conv=>whnf
   generalize hn:nth _ _=o
   obtain rfl:o=some (sl32 xa):=hn.symm.trans (by rw [<-hxa];exact ld (by omega))
   clear hn
   refine ⟨((i - 15:Nat):Int),by rw [wrap_i64 (by omega) (by omega)];omega,i - 15,rfl,by omega,?_⟩
   conv=>whnf
   generalize hn:nth _ _=o
   obtain rfl:o=some (sl32 xa):=hn.symm.trans (by rw [<-hxa];exact ld (by omega))
   clear hn
   refine ⟨((i - 15:Nat):Int),by rw [wrap_i64 (by omega) (by omega)];omega,i - 15,rfl,by omega,?_⟩
   conv=>whnf
   generalize hn:nth _ _=o
   obtain rfl:o=some (sl32 xa):=hn.symm.trans (by rw [<-hxa];exact ld (by omega))
   clear hn
   refine ⟨by omega,_,shr32 xa 3 (by omega),?_⟩
   refine z_af (fun β w' hs=>z_hF w' xa 7 (by omega) (by omega)) ?_
   refine ⟨Sub.refl,?_⟩
   refine z_af (fun β w' hs=>z_hF w' xa 18 (by omega) (by omega)) ?_
   refine ⟨Sub.refl,_,xor32 _ _,_,xor32 _ _,?_⟩
   refine z_ak g z_gP (by kernel_rfl) _ _ Sub.refl ?_
   refine ⟨((i - 2:Nat):Int),by rw [wrap_i64 (by omega) (by omega)];omega,i - 2,rfl,by omega,?_⟩
   conv=>whnf
   generalize hn:nth _ _=o
   obtain rfl:o=some (sl32 xb):=hn.symm.trans (by rw [<-hxb];exact ld (by omega))
   clear hn
   refine ⟨((i - 2:Nat):Int),by rw [wrap_i64 (by omega) (by omega)];omega,i - 2,rfl,by omega,?_⟩
   conv=>whnf
   generalize hn:nth _ _=o
   obtain rfl:o=some (sl32 xb):=hn.symm.trans (by rw [<-hxb];exact ld (by omega))
   clear hn
   refine ⟨((i - 2:Nat):Int),by rw [wrap_i64 (by omega) (by omega)];omega,i - 2,rfl,by omega,?_⟩
   conv=>whnf
   generalize hn:nth _ _=o
   obtain rfl:o=some (sl32 xb):=hn.symm.trans (by rw [<-hxb];exact ld (by omega))
   clear hn
   refine ⟨by omega,_,shr32 xb 10 (by omega),?_⟩
   refine z_af (fun β w' hs=>z_hF w' xb 17 (by omega) (by omega)) ?_
   refine ⟨Sub.refl,?_⟩
   refine z_af (fun β w' hs=>z_hF w' xb 19 (by omega) (by omega)) ?_
   refine ⟨Sub.refl,_,xor32 _ _,_,xor32 _ _,?_⟩
   refine z_ak g z_gF (by kernel_rfl) _ _ Sub.refl ?_
   refine ⟨((i - 7:Nat):Int),by rw [wrap_i64 (by omega) (by omega)];omega,i - 7,rfl,by omega,?_⟩
   conv=>whnf
   generalize hn:nth _ _=o
   obtain rfl:o=some (sl32 ((sched l i).getD (i - 7) 0)):=hn.symm.trans (ld (by omega))
   clear hn
   refine ⟨_,add32 _ _,_,add32 _ _,?_⟩
   refine ⟨((i - 16:Nat):Int),by rw [wrap_i64 (by omega) (by omega)];omega,i - 16,rfl,by omega,?_⟩
   conv=>whnf
   generalize hn:nth _ _=o
   obtain rfl:o=some (sl32 ((sched l i).getD (i - 16) 0)):=hn.symm.trans (ld (by omega))
   clear hn
   refine ⟨_,add32 _ _,i,rfl,by omega,?_⟩
   conv=>whnf
   generalize h1:Nat.ble _ _=b1
   obtain rfl:b1=true:=h1.symm.trans ble
   clear h1
   refine ⟨((i+1:Nat):Int),by rw [wrap_i64 (by omega) (by omega)];rfl,?_⟩
   refine ⟨i+1,by omega,by omega,Ent.mk' ⟨rfl,rfl,rfl,rfl,rfl,trivial⟩ rfl (fun β w' hs=>?_)⟩
   rw [<-fin (((s1 xb+(sched l i).getD (i - 7) 0)+s0 xa)+(sched l i).getD (i - 16) 0) (by rw [if_neg h16,nxt,hxa,hxb,z_vI])]
   exact hs
 ·have e2:arr 64 (sched l i)=ws.map sl32:=by
   have hi64:i=64:=by omega
   rw [<-hws,hi64]
   exact z_o5 (z_dY l 64)
  clear hge hi
  rw [e2]
  clear e2
  have ldw: ∀ {k:Nat},k<64->nth (ws.map sl32) (0+k*1)=some (sl32 (ws.getD k 0)):=fun {k} hk=>by
   rw [z_ax,Nat.zero_add,Nat.mul_one,List.getElem?_map,List.getElem?_eq_getElem (by omega)]
   simp [List.getD,List.getElem?_eq_getElem (show k<ws.length by omega)]
  refine z_ai (ι:=Nat) 4 (fun i=>[(2,.c (.p 0 0)),(4,.c (.p 1 0)),(5,.c (.p 2 0)),(9,.c (.p 3 0)),(10,.c (.v (.int .i64 i)))]) (fun i=>[⟨3,118,(rounds s ws i).l.map sl32⟩,⟨2,212,ws.map sl32⟩,⟨1,118,ti118.zero.map SL.v⟩,⟨0,118,s.l.map sl32⟩]) (fun _=>[bsF A l,oddF 1,oldF w])
   (fun i=>i<=64) (fun i=>64 - i) 0 (Nat.zero_le _) (Ent.same ⟨rfl,rfl,rfl,rfl,rfl,trivial⟩ rfl) g ?_
  intro j hj
  obtain ⟨r,hr⟩: ∃r,rounds s ws j=r:=⟨_,rfl⟩
  rw [hr]
  obtain ⟨xa,xb,xc,xd,xe,xf,xg,xh⟩:=r
  refine BIf.dec (fun hlt=>?_) (fun hge=>?_)
  ·have hlt:j<64:=by omega
   refine ⟨4,rfl,by decide,?_⟩
   refine z_ak g z_fM (by kernel_rfl) _ _ Sub.refl ?_
   refine ⟨7,rfl,by decide,5,rfl,by decide,_,and32 _ _,_,not32 _,6,rfl,by decide,_,and32 _ _,_,xor32 _ _,?_⟩
   refine ⟨j,rfl,hlt,u32 (K.getD j 0),fun β w' hs=>z_rZ (hs.get 1 rfl) hlt,j,rfl,hlt,?_⟩
   conv=>whnf
   generalize hn:nth _ _=o
   obtain rfl:o=some (sl32 (ws.getD j 0)):=hn.symm.trans (ldw hlt)
   clear hn
   refine z_af (fun β w' hs=>z_hF w' xe 6 (by omega) (by omega)) ?_
   refine ⟨Sub.refl,?_⟩
   refine z_af (fun β w' hs=>z_hF w' xe 11 (by omega) (by omega)) ?_
   refine ⟨Sub.refl,_,xor32 _ _,?_⟩
   refine z_af (fun β w' hs=>z_hF w' xe 25 (by omega) (by omega)) ?_
   refine ⟨Sub.refl,_,xor32 _ _,_,add32 _ _,_,add32 _ _,_,add32 _ _,_,add32 _ _,?_⟩
   refine ⟨0,rfl,by decide,?_⟩
   refine z_ak g z_fJ (by kernel_rfl) _ _ Sub.refl ?_
   refine ⟨1,rfl,by decide,_,and32 _ _,2,rfl,by decide,_,and32 _ _,_,xor32 _ _,1,rfl,by decide,2,rfl,by decide,_,and32 _ _,_,xor32 _ _,?_⟩
   refine z_af (fun β w' hs=>z_hF w' xa 2 (by omega) (by omega)) ?_
   refine ⟨Sub.refl,?_⟩
   refine z_af (fun β w' hs=>z_hF w' xa 13 (by omega) (by omega)) ?_
   refine ⟨Sub.refl,_,xor32 _ _,?_⟩
   refine z_af (fun β w' hs=>z_hF w' xa 22 (by omega) (by omega)) ?_
   refine ⟨Sub.refl,_,xor32 _ _,_,add32 _ _,?_⟩
   refine ⟨_,add32 _ _,0,rfl,by decide,1,rfl,by decide,2,rfl,by decide,3,rfl,by decide,_,add32 _ _,4,rfl,by decide,5,rfl,by decide,6,rfl,by decide,?_⟩
   refine ⟨((j+1:Nat):Int),by rw [wrap_i64 (by omega) (by omega)];rfl,?_⟩
   refine ⟨j+1,by omega,by omega,Ent.mk' ⟨rfl,rfl,rfl,rfl,rfl,trivial⟩ rfl (fun β w' hs=>?_)⟩
   have e1:(rounds s ws (j+1)).l.map sl32=(⟨(⟨xa,xb,xc,xd,xe,xf,xg,xh⟩:S8).x (K.getD j 0) (ws.getD j 0)+((⟨xa,xb,xc,xd,xe,xf,xg,xh⟩:S8).y+(⟨xa,xb,xc,xd,xe,xf,xg,xh⟩:S8).z),xa,xb,xc,xd+(⟨xa,xb,xc,xd,xe,xf,xg,xh⟩:S8).x (K.getD j 0) (ws.getD j 0),xe,xf,xg⟩:S8).l.map sl32:=by
    rw [z_lo,hr,S8.round,UInt32.add_assoc]
   rw [e1]
   exact hs
  ·obtain ⟨t,ht⟩: ∃t,(⟨xa,xb,xc,xd,xe,xf,xg,xh⟩:S8)=t:=⟨_,rfl⟩
   have hst:rounds s ws 64=t:=by
    have:j=64:=by omega
    rw [<-ht,<-hr,this]
   rw [hst,ht]
   clear hst ht hr hge hj
   refine z_ai (ι:=Nat) 4 (fun i=>[(2,.c (.p 0 0)),(4,.c (.p 1 0)),(9,.c (.p 3 0)),(165,.c (.v (.int .i64 i)))]) (fun i=>[⟨3,118,t.l.map sl32⟩,⟨2,212,ws.map sl32⟩,⟨1,118,ti118.zero.map SL.v⟩,⟨0,118,mix s t i⟩]) (fun _=>[bsF A l,oddF 1,oldF w])
    (fun i=>i<=8) (fun i=>8 - i) 0 (Nat.zero_le _) (Ent.same ⟨rfl,rfl,rfl,rfl,trivial⟩ rfl) g ?_
   intro j hj
   refine BIf.dec (fun hlt=>?_) (fun hge=>?_)
   ·have hlt:j<8:=by omega
    refine z_ak g z_fR (by kernel_rfl) _ _ Sub.refl ?_
    refine ⟨j,rfl,hlt,?_⟩
    conv=>whnf
    generalize hn:nth _ _=o
    obtain rfl:o=some (sl32 (s.l.getD j 0)):=hn.symm.trans (by
     show nth (mix s t j) (0+j*1)=_
     rw [Nat.zero_add,Nat.mul_one]
     exact z_rs s t j hlt)
    clear hn
    refine ⟨j,rfl,hlt,?_⟩
    conv=>whnf
    generalize hn:nth _ _=o
    obtain rfl:o=some (sl32 (t.l.getD j 0)):=hn.symm.trans (by
     show nth (t.l.map sl32) (0+j*1)=_
     rw [Nat.zero_add,Nat.mul_one,z_ax]
     exact l_get t j hlt)
    clear hn
    refine ⟨_,add32 _ _,j,rfl,hlt,?_⟩
    conv=>whnf
    generalize h1:Nat.ble _ _=b1
    obtain rfl:b1=true:=h1.symm.trans (by
     show Nat.ble (0+j*1+1) (mix s t j).length=true
     rw [z_rI s t j (by omega),Nat.ble_eq];omega)
    clear h1
    refine ⟨((j+1:Nat):Int),by rw [wrap_i64 (by omega) (by omega)];rfl,?_⟩
    refine ⟨j+1,by omega,by omega,Ent.mk' ⟨rfl,rfl,rfl,rfl,trivial⟩ rfl (fun β w' hs=>?_)⟩
    have e3:0+j*1=j:=by omega
    rw [<-z_qK s t j hlt]
    have hs2:Sat (z_aG w (Un [])) β 4 [⟨3,118,t.l.map sl32⟩,⟨2,212,ws.map sl32⟩,⟨1,118,ti118.zero.map SL.v⟩,⟨0,118,putAll (mix s t j) (0+j*1) [sl32 (s.l.getD j 0+t.l.getD j 0)]⟩] [bsF A l,oddF 1,oldF w] w':=hs
    rw [e3] at hs2
    exact hs2
   ·obtain rfl:j=8:=by omega
    intro β w' hs
    exact hs.fin [] ⟨rfl,rfl⟩
theorem z_qF (w:World) (s:S8) (A:Option Addr) (x:List UInt8) (c:Nat) (hx:x.length=64) (hr:Bs w A x) (hk:(oddF 1).p w) (hc:64<=c) (hm:c<=maxLen):
  Pu Tryz.prog z_bL #[stV s,.slice A 64 c] w (stV (Sha.step s x)):=by
 have:=z_us w s A x c hr hk (by omega) (by omega) hm
 rw [hx] at this
 exact this
theorem rgo_c (w:World) (s:S8) (A:Option Addr) (l:List UInt8) (c:Nat) (hr:Bs w A l) (hk:(oddF 1).p w) (hc:l.length<=c) (hm:c<=maxLen):
  Con Tryz.prog z_eE #[stV s,.slice A l.length c] w [] fun v Fs=> ∃A' n' c',v= .tuple #[stV (go (l.length/64) s l),.slice A' n' c']/\Fs=[]:=by
 have g:=z_hs w (Un [])
 rw [go_eq]
 have hs0:Sat (z_aQ w (Un [])) Va.z 0 [] [oldF w] w:=z_aw rfl
 have hs1:Sat (z_aQ w (Un [])) Va.z 0 [] [bsF A l,oddF 1,oldF w] w:=(hs0.sub 0 rfl rfl (oddF 1) rfl hk (rd_lt hk)).sub 1 rfl rfl (bsF A l) rfl hr (rd_lt hr)
 have hm':=hm
 rw [z_ag] at hm'
 refine z_ad (cx:=z_aQ w (Un [])) g z_jv rfl rfl (β:=Va.z) [.agg (s.l.map sl32),.c (.v (.slice A l.length c))] 0 [] [bsF A l,oddF 1,oldF w] rfl rfl hs1 ?_
 refine z_ai (ι:=Nat×Option Addr×Nat) 2 (fun i=>[(1,.c (.v (.slice i.2.1 (l.length - 64*i.1) i.2.2))),(2,.c (.p 0 0)),(4,.c (.p 1 0))]) (fun i=>[⟨1,118,ti118.zero.map SL.v⟩,⟨0,118,((blks l i.1).foldl Sha.step s).l.map sl32⟩]) (fun _=>[bsF A l,oddF 1,oldF w])
  (fun i=>64*i.1<=l.length/\l.length - 64*i.1<=i.2.2/\i.2.2<=9223372036854775807/\(∀w,Bs w A l->Bs w i.2.1 (l.drop (64*i.1)))) (fun i=>l.length - 64*i.1) (0,A,c)
  ⟨Nat.zero_le _,hc,hm',fun w h=>h⟩ (Ent.same ⟨rfl,rfl,rfl,trivial⟩ rfl) g ?_
 rintro ⟨i,B,cap⟩ ⟨hi,hcap,hcm,hB⟩
 simp only at hi hcap hcm hB
 obtain ⟨m,hm2⟩: ∃m,l.length - 64*i=m:=⟨_,rfl⟩
 have hmc:m<=cap:=by omega
 rw [hm2]
 have hdl:(l.drop (64*i)).length=m:=by rw [List.length_drop];omega
 obtain ⟨st,hst⟩: ∃st,(blks l i).foldl Sha.step s=st:=⟨_,rfl⟩
 rw [hst]
 refine BIf.dec (fun h0=>?_) (fun h0=>?_)
 ·have hm64:64<=m:=by omega
  have hbl:(blk l i).length=64:=by unfold blk;rw [List.length_take,hdl];omega
  have hS: ∀ {H:List Bk} {n:Nat},Sub (z_aQ w (Un [])) n H [bsF A l,oddF 1,oldF w] [] [bsF A l,oddF 1,oldF w]:=fun {H n}=>Sub.of (List.nil_sublist _) (List.Sublist.refl _)
  refine z_ak g z_if (by kernel_rfl) [] [bsF A l,oddF 1,oldF w] hS ?_
  refine ⟨cap,64,0,64,cap,_,rfl,rfl,rfl,Nat.le_refl _,by show 64<=cap;omega,by omega,rfl,rfl,rfl,?_⟩
  refine ⟨cap,m,64,m - 64,cap - 64,_,rfl,rfl,rfl,Nat.le_refl _,hmc,hm64,rfl,rfl,rfl,?_⟩
  refine ⟨hS,?_⟩
  refine z_af (fun β w' hs=>z_qF w' st (cutA B cap 0 1) (blk l i) cap hbl ?_ (hs.get 1 rfl) (by omega) (by rw [z_ag];exact hcm)) ?_
  ·have h7:=Bs.cut (hB w' (hs.get 0 rfl)) (c:=cap) (m:=cap) (i:=0) (j:=64) (by omega) (.inl rfl) (by omega) (by omega) (by omega)
   have h8:Rd 1 (cutA B cap 0 1) (blk l i).length ((blk l i).map byte) w':=by rw [hbl];exact h7
   exact h8
  refine ⟨hS,?_⟩
  refine ⟨hS,?_⟩
  refine ⟨(i+1,cutA B cap 64 1,cap - 64),⟨by show 64*(i+1)<=_;omega,by show l.length - 64*(i+1)<=cap - 64;omega,by show cap - 64<=_;omega,fun w' h=>?_⟩,by show l.length - 64*(i+1)<m;omega,Ent.mk' ⟨?_,rfl,rfl,trivial⟩ rfl (fun β w' hs=>?_)⟩
  ·have h7:=Bs.cutB (hB w' h) (c:=cap) (i:=64) (j:=m) (m:=l.drop (64*(i+1))) (by omega) hm64 (by omega) (by
    rw [List.drop_drop,show 64*i+64=64*(i+1) by omega,List.take_of_length_le]
    rw [List.length_drop];omega)
   exact h7
  ·show _=some (SV.c (.v (.slice _ (l.length - 64*(i+1)) _)))
   rw [show l.length - 64*(i+1)=m - 64 by omega]
   rfl
  ·rw [z_nw,List.foldl_append,hst]
   exact hs
 ·have hi2:i=l.length/64:=by omega
  intro β w' hs
  rw [<-hi2,hst]
  exact hs.fin [] ⟨B,m,cap,rfl,rfl⟩
theorem z_vW (w:World) (A:Option Addr) (l:List UInt8) (c:Nat) (hr:Bs w A l) (hk:(oddF 1).p w) (hn:l.length<=70368744177664):
  Con Tryz.prog z_ei #[.slice A l.length c] w [] fun v Fs=> ∃A' c',v= .slice A' 32 c'/\32<=c'/\c'<=maxLen/\Fs=[browF z_ab A' (Sha.sum l) c']:=by
 have g:=z_gt w (Un [])
 have hs0:Sat (z_a1 w (Un [])) Va.z 0 [] [oldF w] w:=z_aw rfl
 have hs1:Sat (z_a1 w (Un [])) Va.z 0 [] [bsF A l,oddF 1,oldF w] w:=(hs0.sub 0 rfl rfl (oddF 1) rfl hk (rd_lt hk)).sub 1 rfl rfl (bsF A l) rfl hr (rd_lt hr)
 refine z_ad (cx:=z_a1 w (Un [])) g z_jd rfl rfl (β:=Va.z) [.c (.v (.slice A l.length c))] 0 [] [bsF A l,oddF 1,oldF w] rfl rfl hs1 ?_
 obtain ⟨q,hq⟩: ∃q,l++ends l.length=q:=⟨_,rfl⟩
 have hql:q.length=l.length+(ends l.length).length:=by rw [<-hq,List.length_append]
 have hel:(ends l.length).length<73:=by rw [Sha.ends_len];unfold zeros;omega
 have hsum:Sha.sum l=out (go (q.length/64) Sha.first q):=by rw [<-hq];rfl
 rw [hsum]
 refine z_af (fun β w' hs=>z_uG w') ?_
 intro b
 refine ⟨0,0,l.length,[],l.map byte,_,rfl,fun β w' hs=>hs.get 1 rfl,z_aq l,Nat.zero_add _,rfl,by rw [z_ag];omega,by show l.length*1<=_;omega,?_⟩
 intro A1 c1 h1 h2 _
 refine ⟨(l.length:Int),by rw [z_aV];omega,?_⟩
 refine z_ac [] (fun β w' hs=>z_vG w' l.length (by omega)) ?_
 rintro v Fs ⟨A2,c2,rfl,h3,h4,rfl⟩
 refine ⟨1,l.length,q.length,_,(ends l.length).map byte,q.map byte,rfl,fun β w hs=>z_am (hs.get 0 rfl),z_aq _,hql.symm,by rw [<-hq,List.map_append];rfl,by rw [z_ag];omega,by show q.length*1<=_;omega,?_⟩
 intro A3 c3 h5 h6 _
 refine z_ac [] (fun β w' hs=>rgo_c w' Sha.first A3 q c3 (z_am (hs.get 1 rfl)) (hs.get 3 rfl) h5 h6) ?_
 rintro v Fs ⟨A4,n4,c4,rfl,rfl⟩
 generalize go (q.length/64) Sha.first q=st
 refine z_ac [] (fun β w' hs=>out_c w' st) ?_
 rintro v Fs ⟨A5,c5,rfl,h7,h8,rfl⟩
 intro β w' hs
 exact (hs.keepB (List.nil_sublist _)).fin [0] ⟨A5,c5,rfl,h7,h8,rfl⟩
theorem z_ar (s t:ByteArray):(s++t).size=s.size+t.size:=ByteArray.size_append
structure SecA where
 A0:Option Addr
 A1:Option Addr
 A2:Option Addr
 A3:Option Addr
 c0:Nat
 c1:Nat
 c2:Nat
 c3:Nat
 s0:List UInt8
 s1:List UInt8
 s2:List UInt8
 s3:List UInt8
 it:Int
def SecA.val (x:SecA):Value:= .agg #[.slice x.A0 x.s0.length x.c0,.int .i64 x.it,.slice x.A1 x.s1.length x.c1,.slice x.A2 x.s2.length x.c2,.slice x.A3 x.s3.length x.c3]
def SecA.cells (x:SecA):List SL:=[.v (.slice x.A0 x.s0.length x.c0),.v (.int .i64 x.it),.v (.slice x.A1 x.s1.length x.c1),.v (.slice x.A2 x.s2.length x.c2),.v (.slice x.A3 x.s3.length x.c3)]
theorem ofInt8 (a:UInt8):BitVec.ofInt 8 (a.toNat:Int)=a.toBitVec:=by
 apply BitVec.eq_of_toNat_eq
 rw [BitVec.toNat_ofInt]
 have:=a.toNat_lt
 have e:a.toBitVec.toNat=a.toNat:=rfl
 rw [e]
 omega
theorem back8 (x:BitVec 8):IntKind.u8.wrap (x.toNat:Int)=((UInt8.ofBitVec x).toNat:Int):=by
 rw [wrap_u8]
 have:=x.isLt
 have e:(UInt8.ofBitVec x).toNat=x.toNat:=rfl
 rw [e]
 omega
theorem or8 (a b:UInt8):bits .or .u8 (a.toNat:Int) (b.toNat:Int)=((a ||| b).toNat:Int):=by
 show IntKind.u8.wrap (((BitVec.ofInt 8 (a.toNat:Int)) ||| (BitVec.ofInt 8 (b.toNat:Int))).toNat:Int)=_
 rw [ofInt8,ofInt8,back8]
 rfl
end Go.Proofs.YtloeaiafphkjnaaGreatDoor.Sx
namespace Go.Proofs.YtloeaiafphkjnaaGreatDoor.Sx
open Go
attribute [local irreducible] Calls
theorem and8 (a b:UInt8):bits .and .u8 (a.toNat:Int) (b.toNat:Int)=((a&&&b).toNat:Int):=by
 show IntKind.u8.wrap (((BitVec.ofInt 8 (a.toNat:Int))&&&(BitVec.ofInt 8 (b.toNat:Int))).toNat:Int)=_
 rw [ofInt8,ofInt8,back8]
 rfl
theorem andNot8 (a b:UInt8):bits .andNot .u8 (a.toNat:Int) (b.toNat:Int)=((a&&& ~~~b).toNat:Int):=by
 show IntKind.u8.wrap (((BitVec.ofInt 8 (a.toNat:Int))&&& ~~~(BitVec.ofInt 8 (b.toNat:Int))).toNat:Int)=_
 rw [ofInt8,ofInt8,back8]
 rfl
theorem z_iH {x:Int} (h1: -2147483648<=x) (h2:x<=2147483647):IntKind.i32.wrap x=x:=by
 simp only [IntKind.wrap,IntKind.bits,IntKind.signed]
 simp
 omega
theorem z_rY (b:UInt8):((b&&& ~~~63).toNat:Int)=128↔b.toNat/64=2:=by
 have h: ∀n:_root_.Fin 256,(((UInt8.ofNat n.1)&&& ~~~63).toNat=128↔(UInt8.ofNat n.1).toNat/64=2):=by decide+kernel
 have h2:(b&&& ~~~63).toNat=128↔b.toNat/64=2:=Nam.u8_all (p:=fun b=>(b&&& ~~~63).toNat=128↔b.toNat/64=2) h b
 omega
theorem z_vh (b:UInt8):(b&&&63).toNat=b.toNat%64:=by
 have h: ∀n:_root_.Fin 256,((UInt8.ofNat n.1)&&&63).toNat=(UInt8.ofNat n.1).toNat%64:=by decide+kernel
 exact Nam.u8_all (p:=fun b=>(b&&&63).toNat=b.toNat%64) h b
theorem z_sn {x:Nat} (hx:x<33554432):IntKind.i32.wrap ((x:Int)*2^(min (6:Int).toNat IntKind.i32.bits))=((x*64:Nat):Int):=by
 have h1:min (6:Int).toNat IntKind.i32.bits=6:=rfl
 rw [h1,z_iH (by omega) (by omega)]
 omega
theorem z_um {x y:Nat} (hx:x<33554432) (hy:y<64):bits .or .i32 ((x*64:Nat):Int) (y:Int)=((x*64+y:Nat):Int):=by
 show IntKind.i32.wrap (((BitVec.ofInt 32 ((x*64:Nat):Int)) ||| (BitVec.ofInt 32 (y:Int))).toNat:Int)=_
 have h1:(BitVec.ofInt 32 ((x*64:Nat):Int)).toNat=x<<<6:=by
  rw [BitVec.toNat_ofInt,Nat.shiftLeft_eq]
  omega
 have h2:(BitVec.ofInt 32 (y:Int)).toNat=y:=by
  rw [BitVec.toNat_ofInt]
  omega
 rw [BitVec.toNat_or,h1,h2,<-Nat.shiftLeft_add_eq_or_of_lt (by omega) x,Nat.shiftLeft_eq,z_iH (by omega) (by omega)]
theorem z_t1 (w:World) (z:Int) (r:Nat) (hz:z=(r:Int)):Pu Tryz.prog z_lc #[.int .i32 z] w (.bool (Nam.sign r)):=by
 refine z_ad (cx:=z_f7 w (Un [])) (z_l1 w (Un [])) z_oz rfl rfl (β:=Va.z) [.c (.v (.int .i32 z))] 0 [] [] rfl rfl (Sat.start rfl) ?_
 have fin: ∀(b:Bool),b=Nam.sign r-> ∀ {n:Nat} {H:List Bk} {F:List Fact} (β:Va) (w':World),Sat (z_f7 w (Un [])) β n H F w'->Fin w [] (fun u Fs=>u= .bool (Nam.sign r)/\Fs=[]) (.bool b) w':=by
  rintro b rfl n H F β w' hs
  exact (hs.keepB (List.nil_sublist _)).fin [] ⟨rfl,rfl⟩
 refine BIf.dec (fun h0=>?_) (fun h0=>?_)
 ·refine BIf.dec (fun h1=>?_) (fun h1=>?_)
  ·have h1':z<=1114111:=h1
   refine BIf.dec (fun h2=>?_) (fun h2=>?_)
   ·have h2':z<55296:=h2
    refine fin true ?_
    unfold Nam.sign
    rw [decide_eq_true (by omega:r<=1114111),decide_eq_true (by omega:r<55296)];rfl
   ·have h2': ¬z<55296:=h2
    refine fin (decide ((57343:Int)<z)) ?_
    unfold Nam.sign
    rw [decide_eq_true (by omega:r<=1114111),decide_eq_false (by omega: ¬r<55296),Bool.true_and,Bool.false_or]
    exact decide_eq_decide.2 (by omega)
  ·have h1': ¬z<=1114111:=h1
   refine fin false ?_
   unfold Nam.sign
   rw [decide_eq_false (by omega: ¬r<=1114111)];rfl
 ·have h0': ¬(0:Int)<=z:=h0
  omega
def formV (f:Nam.Fm):List Value:=[.int .i64 (f.size:Int),byte f.mask,byte f.lead,.int .i32 (f.least:Int)]
def formCells:List Value:=Nam.fms.flatMap formV
def Forms (g:Nat) (w:World):Prop:=Rd 16 (some ⟨g,0,none⟩) 1 formCells w
theorem Forms.old {g:Nat} {W w:World} (h:Forms g W) (ho:(oldF W).p w):Forms g w:=Rd.old h ho
def runeI:Option Nat->Int
 | some r=>(r:Int)
 | none=> -1
theorem z_rK: ∀ {i:Nat} {f:Nam.Fm},Nam.fms[i]?=some f->((formCells.map SL.v).drop (i*4)).take 4=(formV f).map SL.v
 | 0,f,h=>by cases h;rfl
 | 1,f,h=>by cases h;rfl
 | 2,f,h=>by cases h;rfl
 | 3,f,h=>by cases h;rfl
 | n+4,f,h=>by simp [Nam.fms] at h
theorem z_jL (b:UInt8): ∀(l:List UInt8) (r:Nat),Nam.tailR (l++[b]) r=match Nam.tailR l r with
  | some q=>if b.toNat/64=2 then some (q*64+b.toNat%64) else none
  | none=>none
 | [],r=>rfl
 | x::t,r=>by
  simp only [List.cons_append,Nam.tailR]
  split
  ·exact z_jL b t _
  ·rfl
theorem z_ln {f:Nam.Fm} (h:f∈Nam.fms):1<=f.size/\f.size<=4/\f.least<=65536:=by
 simp only [Nam.fms,List.mem_cons,List.not_mem_nil,or_false] at h
 rcases h with rfl | rfl | rfl | rfl<;>decide
theorem z_tB (w:World) (s:ByteArray) (b0:UInt8) (t:List UInt8) (hs0:s.data.toList=b0::t) (hsz:s.size<=maxLen) (hf:Forms 10 w):
  Pu Tryz.prog z_i1 #[.string s] w (.tuple #[.int .i32 (runeI (Nam.decL (b0::t)).1),.int .i64 ((Nam.decL (b0::t)).2:Int)]):=by
 have g:=z_kr w (Un [])
 have hlen:s.size=(b0::t).length:=by rw [<-hs0];rfl
 have hml:=z_ag
 refine z_ad (cx:=z_cu w (Un [])) g z_m4 rfl rfl (β:=Va.z) [.c (.v (.string s))] 0 [] [oldF w] rfl rfl (z_aw rfl) ?_
 refine ⟨formCells,rfl,fun β w' hs=>?_,?_⟩
 ·intro j u hu
  obtain ⟨ad,q,hc⟩:=(Forms.old hf (hs.get 0 rfl)).2 (by decide)
  cases q
  exact hc j u hu
 have bad:Nam.decL (b0::t)=(none,1)-> ∀ {n:Nat} {H:List Bk} {F:List Fact} (β:Va) (w':World),Sat (z_cu w (Un [])) β n H F w'->Fin w [] (fun u Fs=>u= .tuple #[.int .i32 (runeI (Nam.decL (b0::t)).1),.int .i64 ((Nam.decL (b0::t)).2:Int)]/\Fs=[]) (.tuple #[.int .i32 (-1),.int .i64 1]) w':=by
  intro h n H F β w' hs
  rw [h]
  exact (hs.keepB (List.nil_sublist _)).fin [] ⟨rfl,rfl⟩
 refine z_ai 0 (fun i:Nat=>[(0,.c (.v (.string s))),(8,.agg (formCells.map SL.v)),(9,.c (.v (.int .i64 (i:Int))))]) (fun _=>[]) (fun _=>[oldF w])
  (fun i=>i<=4/\ ∀f∈Nam.fms.take i,Nam.fits f (b0::t)=false) (fun i=>4 - i) 0 ⟨Nat.zero_le _,fun f h=>by cases h⟩ (Ent.same ⟨rfl,rfl,rfl,trivial⟩ rfl) g ?_
 rintro i ⟨hi,hno⟩
 have next: ∀ {f:Nam.Fm},Nam.fms[i]?=some f->Nam.fits f (b0::t)=false-> ∀f∈Nam.fms.take (i+1),Nam.fits f (b0::t)=false:=by
  intro f hfi hff f' hf'
  rw [List.take_add_one,hfi] at hf'
  rcases List.mem_append.1 hf' with q | q
  ·exact hno f' q
  ·obtain rfl:f'=f:=by simpa using q
   exact hff
 refine BIf.dec (fun hlt=>?_) (fun hge=>?_)
 ·have hlt0:(i:Int)<4:=hlt
  have hi4:i<Nam.fms.length:=by show i<4;omega
  obtain ⟨f,hfi,hfm⟩:=at_lt hi4
  have hfs:=z_ln hfm
  refine ⟨i,(formV f).map SL.v,rfl,by omega,z_rK hfi,?_⟩
  have hS: ∀ {n:Nat} {F:List Fact},Sub (z_cu w (Un [])) n [⟨0,z_aZ,(formV f).map SL.v⟩] F [⟨0,z_aZ,(formV f).map SL.v⟩] []:=fun {n F}=>Sub.of (List.Sublist.refl _) (List.nil_sublist _)
  have hb0:s.data.toList[0]?=some b0:=by rw [hs0];rfl
  refine z_ak g z_kJ (by kernel_rfl) [⟨0,z_aZ,(formV f).map SL.v⟩] [] hS ?_
  refine ⟨0,b0,rfl,hb0,?_⟩
  refine ⟨_,and8 b0 f.mask,?_⟩
  refine BIf.not (BIf.dec (fun hm=>?_) (fun hm=>?_))
  ·have hm1:((b0&&&f.mask).toNat:Int)=(f.lead.toNat:Int):=hm
   have hm2:b0&&&f.mask=f.lead:=UInt8.toNat_inj.1 (by omega)
   refine BIf.dec (fun hsh=>?_) (fun hsh=>?_)
   ·have hsh1:(s.size:Int)<(f.size:Int):=hsh
    have hff:Nam.fits f (b0::t)=false:=by
     simp only [Nam.fits,hm2,decide_true,Bool.true_and]
     exact decide_eq_false (by omega)
    refine ⟨((i+1:Nat):Int),by rw [wrap_i64 (by omega) (by omega)];rfl,?_⟩
    exact ⟨i+1,⟨by omega,next hfi hff⟩,by omega,Ent.mk' ⟨rfl,rfl,rfl,trivial⟩ rfl (fun β w hs=>(hs.keepB (List.nil_sublist _)).lower)⟩
   ·have hsh1: ¬(s.size:Int)<(f.size:Int):=hsh
    have hfl:f.size<=(b0::t).length:=by omega
    have hdec:Nam.decL (b0::t)=match Nam.tryF f (b0::t) with | some r=>(some r,f.size) | none=>(none,1):=by
     unfold Nam.decL
     rw [Nam.find_form hfm hm2,if_pos hfl]
     try rfl
    refine z_ak g z_la (by kernel_rfl) [⟨0,z_aZ,(formV f).map SL.v⟩] [] hS ?_
    refine ⟨0,b0,rfl,hb0,?_⟩
    refine ⟨_,andNot8 b0 f.mask,?_⟩
    obtain ⟨r0,hr0⟩: ∃r0,(b0&&& ~~~f.mask).toNat=r0:=⟨_,rfl⟩
    have hr0l:r0<256:=by rw [<-hr0];exact UInt8.toNat_lt _
    refine ⟨(r0:Int),by rw [hr0];exact z_iH (by omega) (by omega),?_⟩
    have hbad:Nam.tryF f (b0::t)=none->Nam.decL (b0::t)=(none,1):=fun h=>by rw [hdec,h]
    refine z_ai (ι:=Nat×Nat) 1 (fun q=>[(0,.c (.v (.string s))),(5,.c (.p 0 0)),(6,.c (.v (.int .i32 (q.2:Int)))),(7,.c (.v (.int .i64 (q.1:Int))))]) (fun _=>[⟨0,z_aZ,(formV f).map SL.v⟩]) (fun _=>[oldF w])
     (fun q=>1<=q.1/\q.1<=f.size/\Nam.tailR (t.take (q.1 - 1)) r0=some q.2/\q.2<256*64^(q.1 - 1)) (fun q=>f.size - q.1) (1,r0) ⟨Nat.le_refl _,hfs.1,rfl,by simpa using hr0l⟩ (Ent.same ⟨rfl,rfl,rfl,rfl,trivial⟩ rfl) g ?_
    rintro ⟨k,r⟩ ⟨hk1,hk2,htl,hrb⟩
    simp only at hk1 hk2 htl hrb
    simp only
    refine BIf.dec (fun hks=>?_) (fun hks=>?_)
    ·have hks1:(k:Int)<(f.size:Int):=hks
     have hkt:k - 1<t.length:=by simp only [List.length_cons] at hfl;omega
     obtain ⟨c,hc,_⟩:=at_lt hkt
     have hcs:s.data.toList[k]?=some c:=by
      rw [hs0]
      obtain ⟨k',rfl⟩: ∃k',k=k'+1:=⟨k - 1,by omega⟩
      simpa using hc
     have hsn:t.take k=t.take (k - 1)++[c]:=by
      have:=List.take_add_one (l:=t) (i:=k - 1)
      rw [hc,Nat.sub_add_cancel hk1] at this
      exact this
     have hrb2:r<33554432:=by
      have:64^(k - 1)<=64^2:=Nat.pow_le_pow_right (by decide) (by omega)
      omega
     refine ⟨k,c,rfl,hcs,?_⟩
     refine ⟨_,andNot8 c 63,?_⟩
     refine BIf.not (BIf.dec (fun hct=>?_) (fun hct=>?_))
     ·have hcc:c.toNat/64=2:=(z_rY c).1 hct
      refine ⟨by decide,_,z_sn hrb2,?_⟩
      refine ⟨k,c,rfl,hcs,?_⟩
      refine ⟨_,and8 c 63,?_⟩
      refine ⟨((c.toNat%64:Nat):Int),by rw [z_vh];exact z_iH (by omega) (by omega),?_⟩
      refine ⟨_,z_um hrb2 (Nat.mod_lt _ (by decide)),?_⟩
      refine ⟨((k+1:Nat):Int),by rw [wrap_i64 (by omega) (by omega)];rfl,?_⟩
      refine ⟨(k+1,r*64+c.toNat%64),⟨by show 1<=k+1;omega,by show k+1<=f.size;omega,?_,?_⟩,by show f.size - (k+1)<f.size - k;omega,Ent.same ⟨rfl,rfl,rfl,rfl,trivial⟩ rfl⟩
      ·show Nam.tailR (t.take (k+1 - 1)) r0=some (r*64+c.toNat%64)
       rw [Nat.add_sub_cancel,hsn,z_jL,htl]
       simp only
       rw [if_pos hcc]
      ·show r*64+c.toNat%64<256*64^(k+1 - 1)
       obtain ⟨k',rfl⟩: ∃k',k=k'+1:=⟨k - 1,by omega⟩
       simp only [Nat.add_sub_cancel] at hrb ⊢
       rw [Nat.pow_succ]
       omega
     ·have hcc: ¬c.toNat/64=2:=fun q=>hct ((z_rY c).2 q)
      exact bad (hbad (by
       simp only [Nam.tryF]
       rw [Nam.tailR_none]
       refine ⟨c,?_,hcc⟩
       have h2:c∈t.take k:=by rw [hsn];simp
       exact List.take_subset_take_left t (by omega) h2))
    ·have hks1: ¬(k:Int)<(f.size:Int):=hks
     obtain rfl:k=f.size:=by omega
     have hmid:Nam.tryF f (b0::t)=if f.least<=r/\Nam.sign r=true then some r else none:=by
      simp only [Nam.tryF,hr0,htl]
     refine BIf.dec (fun hls=>?_) (fun hls=>?_)
     ·have hls1:(f.least:Int)<=(r:Int):=hls
      refine z_af (fun β w' hs=>z_t1 w' (r:Int) r rfl) ?_
      cases hsg:Nam.sign r with
      | true=>
       rw [if_pos ⟨by omega,hsg⟩] at hmid
       rw [hmid] at hdec
       refine z_ak g z_kp (by kernel_rfl) [⟨0,z_aZ,(formV f).map SL.v⟩] [] hS ?_
       intro β w' hs
       rw [hdec]
       exact (hs.keepB (List.nil_sublist _)).fin [] ⟨rfl,rfl⟩
      | false=>exact bad (hbad (by rw [hmid,if_neg (fun q=>by rw [hsg] at q;cases q.2)]))
     ·have hls1: ¬(f.least:Int)<=(r:Int):=hls
      exact bad (hbad (by rw [hmid,if_neg (fun q=>hls1 (by have:=q.1;omega))]))
  ·have hm1: ¬((b0&&&f.mask).toNat:Int)=(f.lead.toNat:Int):=hm
   have hff:Nam.fits f (b0::t)=false:=by
    simp only [Nam.fits]
    rw [decide_eq_false (fun q=>hm1 (by rw [q]))]
    rfl
   refine ⟨((i+1:Nat):Int),by rw [wrap_i64 (by omega) (by omega)];rfl,?_⟩
   exact ⟨i+1,⟨by omega,next hfi hff⟩,by omega,Ent.mk' ⟨rfl,rfl,rfl,trivial⟩ rfl (fun β w hs=>(hs.keepB (List.nil_sublist _)).lower)⟩
 ·have hge0: ¬(i:Int)<4:=hge
  have hi4:i=4:=by omega
  subst hi4
  refine bad ?_
  unfold Nam.decL
  rw [List.find?_eq_none.2 (fun f hf q=>by rw [hno f hf] at q;cases q)]
abbrev Sp:=Int×Int
def spanV (x:Sp):List Value:=[.int .i32 x.1,.int .i32 x.2]
def inSp (z:Int) (l:List Sp):Bool:=l.any fun p=>decide (p.1<=z)&&decide (z<=p.2)
theorem z_mJ (w:World) (z:Int) (A:Option Addr) (l:List Sp) (c:Nat) (hr:Rd 2 A l.length (l.flatMap spanV) w) (hn:l.length<=1000):
  Pu Tryz.prog z_iw #[.int .i32 z,.slice A l.length c] w (.bool (inSp z l)):=by
 have g:=z_kg w (Un [])
 refine z_ad (cx:=z_ev w (Un [])) g z_m9 rfl rfl (β:=Va.z) [.c (.v (.int .i32 z)),.c (.v (.slice A l.length c))] 0 [] [oldF w] rfl rfl (z_aw rfl) ?_
 refine z_ai 0 (fun k:Nat=>[(0,.c (.v (.int .i32 z))),(7,.c (.v (.slice A l.length c))),(8,.c (.v (.int .i64 l.length))),(9,.c (.v (.int .i64 (k:Int))))]) (fun _=>[]) (fun _=>[oldF w])
  (fun k=>k<=l.length/\inSp z (l.take k)=false) (fun k=>l.length - k) 0 ⟨Nat.zero_le _,rfl⟩ (Ent.same ⟨rfl,rfl,rfl,rfl,trivial⟩ rfl) g ?_
 rintro k ⟨hk,hno⟩
 refine BIf.dec (fun hlt=>?_) (fun hge=>?_)
 ·have hlt0:(k:Int)<l.length:=hlt
  have hkl:k<l.length:=by omega
  obtain ⟨x,hx,hxm⟩:=at_lt hkl
  obtain ⟨ad,hA,_⟩:=hr.2 (by omega)
  have hsn:inSp z (l.take (k+1))=(decide (x.1<=z)&&decide (z<=x.2)):=by
   rw [List.take_add_one,hx]
   unfold inSp at hno ⊢
   rw [List.any_append,hno]
   simp
  have next:inSp z (l.take (k+1))=false->Ent (z_ev w (Un [])) 1 [(0,.c (.v (.int .i32 z))),(7,.c (.v (.slice A l.length c))),(8,.c (.v (.int .i64 l.length))),(9,.c (.v (.int .i64 ((k+1:Nat):Int))))] [] [oldF w] 0 [(0,.c (.v (.int .i32 z))),(7,.c (.v (.slice A l.length c))),(8,.c (.v (.int .i64 l.length))),(9,.c (.v (.int .i64 ((k+1:Nat):Int))))] [] [oldF w]:=fun _=>Ent.mk' ⟨rfl,rfl,rfl,rfl,trivial⟩ rfl (fun β w hs=>hs.lower)
  refine ⟨ad,k,hA,rfl,hkl,spanV x,rfl,fun β w' hs=>?_,?_⟩
  ·have h:=Rd.old hr (hs.get 0 rfl)
   obtain ⟨hil,hie⟩:=List.getElem?_eq_some_iff.1 hx
   have h2:=Rd.elem (f:=spanV) (fun _=>rfl) h hA hil
   rw [hie] at h2
   exact h2
  ·refine BIf.dec (fun h1=>?_) (fun h1=>?_)
   ·have h1':x.1<=z:=h1
    refine BIf.dec (fun h2=>?_) (fun h2=>?_)
    ·have h2':z<=x.2:=h2
     intro β w' hs
     refine (hs.keepB (List.nil_sublist _)).fin [] ⟨?_,rfl⟩
     show Value.bool true=_
     congr 1
     refine (List.any_eq_true.2 ⟨x,hxm,?_⟩).symm
     rw [decide_eq_true h1',decide_eq_true h2']
     rfl
    ·have h2': ¬z<=x.2:=h2
     refine ⟨((k+1:Nat):Int),by rw [wrap_i64 (by omega) (by omega)];rfl,?_⟩
     exact ⟨k+1,⟨hkl,by rw [hsn,decide_eq_false h2',Bool.and_false]⟩,by omega,Ent.mk' ⟨rfl,rfl,rfl,rfl,trivial⟩ rfl (fun β w hs=>(hs.keepB (List.nil_sublist _)).lower)⟩
   ·have h1': ¬x.1<=z:=h1
    refine ⟨((k+1:Nat):Int),by rw [wrap_i64 (by omega) (by omega)];rfl,?_⟩
    exact ⟨k+1,⟨hkl,by rw [hsn,decide_eq_false h1',Bool.false_and]⟩,by omega,Ent.mk' ⟨rfl,rfl,rfl,rfl,trivial⟩ rfl (fun β w hs=>(hs.keepB (List.nil_sublist _)).lower)⟩
 ·have hge0: ¬(k:Int)<l.length:=hge
  obtain rfl:k=l.length:=by omega
  rw [List.take_length] at hno
  intro β w' hs
  refine hs.fin [] ⟨?_,rfl⟩
  rw [hno]
  rfl
abbrev Rn:=Nat×Int
def runesAt (l:List UInt8) (i:Nat):List Rn:=if h:i<l.length then (i,runeI (Nam.decL (l.drop i)).1)::runesAt l (i+max 1 (Nam.decL (l.drop i)).2) else []
termination_by l.length - i
decreasing_by omega
theorem z_cq {l:List UInt8} {i:Nat} (h: ¬i<l.length):runesAt l i=[]:=by rw [runesAt,dif_neg h]
theorem z_gu {l:List UInt8} {i:Nat} (h:i<l.length):l.drop i≠[]:=fun q=>by
 have:=congrArg List.length q
 rw [List.length_drop] at this
 simp at this
 omega
theorem z_ee {l:List UInt8} {i:Nat} (h:i<l.length):runesAt l i=(i,runeI (Nam.decL (l.drop i)).1)::runesAt l (i+(Nam.decL (l.drop i)).2):=by
 have h1:=Nam.decL_size (z_gu h)
 rw [runesAt,dif_pos h,Nat.max_eq_right h1.1]
theorem z_eh (l:List UInt8): ∀(k i:Nat),l.length - i<=k->(runesAt l i).map (·.2)=(Nam.runes (l.drop i)).map runeI:=by
 intro k
 induction k with
 | zero=>
  intro i h
  rw [z_cq (by omega),List.drop_eq_nil_of_le (by omega),Nam.runes_nil]
  rfl
 | succ k ih=>
  intro i h
  by_cases hi:i<l.length
  ·have h1:=Nam.decL_size (z_gu hi)
   rw [z_ee hi,Nam.runes_cons (z_gu hi),List.map_cons,List.map_cons,ih _ (by omega),List.drop_drop]
  ·rw [z_cq hi,List.drop_eq_nil_of_le (by omega),Nam.runes_nil]
   rfl
def insR (t:List UInt8) (pre:List Rn) (x:Rn) (args:Array Value) (X:Fact):Prop:=args= #[.int .i64 (x.1:Int),.int .i32 x.2]/\X=noF/\ ∃r,runesAt t 0=pre++x::r
def runesEnd (l:List UInt8) (J Jx:List Rn->Fact->Prop) (Fs:List Fact):Prop:=
 ∃f Fs',Fs=f::Fs'/\((∃xs,J xs f/\xs=runesAt l 0/\Fs'=[])\/(∃pre,Jx pre f/\(∃r,runesAt l 0=pre++r)/\Fs'=[]))
def formF:Fact:=rdF 16 (some ⟨10,0,none⟩) 1 formCells
theorem z_ka (s:ByteArray) (i:Nat):(s.extract i s.size).data.toList=s.data.toList.drop i:=by
 rw [ByteArray.data_extract,Array.toList_extract,List.extract_eq_take_drop]
 rw [List.take_of_length_le]
 rw [List.length_drop]
 exact Nat.le_refl _
theorem z_pq (l:Nat) (w:World) (bx:Nat) (s:ByteArray) (f0 R:Fact) (J Jx:List Rn->Fact->Prop) (hJ0:J [] f0) (hJo: ∀pre f,J pre f->f.own=true) (hRo:R.own=false) (hY:Yc Tryz.prog l J Jx R (insR s.data.toList))
  (hl:s.size<=1000000) (hm:Mem w (f0::R::[bkF bx z_ah [.string s],formF])):
  Con Tryz.prog z_eq #[.func (.yield l) #[] #[],.pointer (some ⟨bx,0,none⟩)] w [f0,bkF bx z_ah [.string s]] (fun _ Fs=>runesEnd s.data.toList J Jx Fs):=by
 have g:=z_jK w (Un [f0,bkF bx z_ah [.string s]]) [bx]
 have hs0:Sat (z_dP w (Un [f0,bkF bx z_ah [.string s]]) [bx]) (Va.of fun _=>bx) 1 [] (f0::R::[bkF bx z_ah [.string s],formF]) w:=by
  refine hm.sat rfl (fun f hf ho k hk=>?_) ⟨Nat.le_refl 1,fun i hi=>by obtain rfl:i=0:=Nat.lt_one_iff.1 hi;rfl⟩
  simp only [List.mem_cons,List.not_mem_nil,or_false] at hf
  rcases hf with rfl | rfl | rfl | rfl
  ·exact ⟨_,by simp,hk⟩
  ·rw [hRo] at ho;cases ho
  ·exact ⟨_,by simp,hk⟩
  ·cases ho
 have hs1:=hs0.toBk 2 rfl 0 Nat.zero_lt_one rfl
 have hlen:s.data.toList.length=s.size:=rfl
 have hml:=z_ag
 refine z_ad (cx:=z_dP w (Un [f0,bkF bx z_ah [.string s]]) [bx]) g z_lV rfl rfl (β:=Va.of fun _=>bx) [.c (.v (.func (.yield l) #[] #[])),.c (.p 0 0)] 1 _ _ rfl rfl hs1 ?_
 refine z_ai (ι:=List Rn×Nat×Fact) 1 (fun i=>[(0,.c (.v (.func (.yield l) #[] #[]))),(1,.c (.p 0 0)),(3,.c (.v (.int .i64 (i.2.1:Int))))]) (fun _=>[⟨0,z_ah,[.v (.string s)]⟩]) (fun i=>[i.2.2,R,formF])
  (fun i=>J i.1 i.2.2/\runesAt s.data.toList 0=i.1++runesAt s.data.toList i.2.1/\i.2.1<=s.size) (fun i=>s.size - i.2.1) ([],0,f0) ⟨hJ0,rfl,Nat.zero_le _⟩ (Ent.same ⟨rfl,rfl,rfl,trivial⟩ rfl) g ?_
 rintro ⟨pre,i,f⟩ ⟨hJ,hsc,hi⟩
 simp only at hJ hsc hi
 have hfo:=hJo _ _ hJ
 simp only
 refine BIf.dec (fun hlt=>?_) (fun hge=>?_)
 ·have hlt0:(i:Int)<s.size:=hlt
  have hil:i<s.data.toList.length:=by omega
  refine ⟨s.size,i,rfl,rfl,Nat.le_refl _,hi,?_⟩
  have hd:=Nam.decL_size (z_gu hil)
  rw [List.length_drop] at hd
  rw [z_ee hil] at hsc
  obtain ⟨b0,t,hbt⟩: ∃b0 t,s.data.toList.drop i=b0::t:=by
   cases h:s.data.toList.drop i with
   | nil=>exact absurd h (z_gu hil)
   | cons b t=>exact ⟨b,t,rfl⟩
  obtain ⟨o,n,hon⟩: ∃o n,Nam.decL (s.data.toList.drop i)=(o,n):=⟨_,_,rfl⟩
  rw [hon] at hd hsc
  simp only at hd hsc
  refine z_af (v:= .tuple #[.int .i32 (runeI o),.int .i64 (n:Int)]) (fun β w' hs=>by
   have h:=z_tB w' (s.extract i s.size) b0 t (by rw [z_ka,hbt]) (by rw [ByteArray.size_extract];omega) (hs.get 2 rfl)
   rw [<-hbt,hon] at h
   exact h) ?_
  refine z_bq (X:=noF) (x:=(i,runeI o)) hY 0 1 rfl hJ hfo rfl hRo (by decide) (fun β=>⟨rfl,rfl,_,hsc⟩) rfl (fun β w _=>⟨trivial,fun k hk=>hk.elim,fun k _ h=>h.elim⟩) ?_ ?_
  ·intro f2 hfo2 hJ2
   refine ⟨((i+n:Nat):Int),by rw [wrap_i64 (by omega) (by omega)];rfl,?_⟩
   exact ⟨(pre++[(i,runeI o)],i+n,f2),⟨hJ2,by show runesAt s.data.toList 0=pre++[(i,runeI o)]++runesAt s.data.toList (i+n);rw [hsc];simp,by show i+n<=s.size;omega⟩,by show s.size - (i+n)<s.size - i;omega,Ent.same ⟨rfl,rfl,rfl,trivial⟩ rfl⟩
  ·intro f2 hfo2 hJ2 β w' hs
   exact (hs.keepB (List.nil_sublist _)).fin [0] ⟨f2,[],rfl,.inr ⟨_,hJ2,⟨runesAt s.data.toList (i+n),by rw [hsc];simp⟩,rfl⟩⟩ rfl rfl rfl ⟨hfo2,trivial⟩
 ·have hge0: ¬(i:Int)<s.size:=hge
  rw [z_cq (l:=s.data.toList) (i:=i) (by omega),List.append_nil] at hsc
  intro β w' hs
  exact (hs.keepB (List.nil_sublist _)).fin [0] ⟨f,[],rfl,.inl ⟨pre,hJ,hsc.symm,rfl⟩⟩ rfl rfl rfl ⟨hfo,trivial⟩
theorem z_rG (w:World) (s:ByteArray):Con Tryz.prog z_j2 #[.string s] w [] (fun v Fs=> ∃bx,v= .func (.func z_eq) #[] #[.pointer (some ⟨bx,0,none⟩)]/\Fs=[bkF bx z_ah [.string s]]):=by
 refine z_ad (cx:=z_is w (Un [])) (z_kN w (Un [])) z_nq rfl rfl (β:=Va.z) [.c (.v (.string s))] 0 [] [] rfl rfl (Sat.start rfl) ?_
 intro β w' hs
 exact hs.ofBk.fin [0] ⟨β 0,rfl,rfl⟩
def validB (l:List UInt8):Bool:=(Nam.runes l).all Option.isSome
theorem runeI_none {o:Option Nat}:runeI o= -1↔o=none:=by
 cases o with
 | none=>simp [runeI]
 | some r=>
  simp only [runeI]
  constructor
  ·intro h;omega
  ·intro h;cases h
theorem z_li (l:List UInt8):validB l=true↔ ∀x∈runesAt l 0,x.2≠ -1:=by
 have h:=z_eh l _ 0 (Nat.le_refl _)
 rw [List.drop_zero] at h
 unfold validB
 rw [List.all_eq_true]
 constructor
 ·intro hv x hx q
  have:x.2∈(runesAt l 0).map (·.2):=List.mem_map.2 ⟨x,hx,rfl⟩
  rw [h] at this
  obtain ⟨o,ho,hq⟩:=List.mem_map.1 this
  have h2:=hv o ho
  rw [q] at hq
  rw [runeI_none.1 hq] at h2
  cases h2
 ·intro hv o ho
  cases o with
  | some r=>rfl
  | none=>
   have:runeI none∈(Nam.runes l).map runeI:=List.mem_map.2 ⟨none,ho,rfl⟩
   rw [<-h] at this
   obtain ⟨x,hx,hq⟩:=List.mem_map.1 this
   exact absurd hq (hv x hx)
theorem z_uu (w0:World) (s:ByteArray) (hl:s.size<=1000000) (hf:Forms 10 w0):Pu Tryz.prog z_jN #[.string s] w0 (.bool (validB s.data.toList)):=by
 have g:=z_lL w0 (Un [])
 refine z_ad (cx:=z_i0 w0 (Un [])) g z_nC rfl rfl (β:=Va.z) [.c (.v (.string s))] 0 [] [formF] rfl rfl ((Sat.start rfl).rd (fun _ h=>by cases h) hf) ?_
 refine z_ac [] (fun β w hs=>z_rG w s) ?_
 rintro v Fs ⟨bx,rfl,rfl⟩
 refine z_aB (α:=Rn) (ι:=Unit) (κ:=Unit) g rfl (cv:=[.pointer (some ⟨bx,0,none⟩)]) rfl (by kernel_rfl) 1 (Nat.le_refl 1)
  (fun pre _=> ∀x∈pre,x.2≠ -1) (fun _=>[⟨0,z_op,[.v (.bool false)]⟩]) (fun _=>[]) (fun _=>trivial)
  (fun e pre _=>e= .ret/\ ∃x∈pre,x.2= -1) (fun _=>[⟨0,z_op,[.v (.bool false)]⟩]) (fun _=>[]) (fun _=>trivial)
  [bkF bx z_ah [.string s]] [formF] [] ⟨rfl,trivial⟩ (fun g h=>by cases h) () (fun x h=>by cases h) (fun β w hs=>⟨β,Agr.refl _ _,hs⟩) (insR s.data.toList)
  (fun xs Fs'=>xs=runesAt s.data.toList 0/\Fs'=[]) (fun pre Fs'=>(∃r,runesAt s.data.toList 0=pre++r)/\Fs'=[])
  (fun l w f0 R J Jx hJ0 hJo hRo hY hm=>(z_pq l w bx s f0 R J Jx hJ0 hJo hRo hY hl hm).mono fun _ Fs h=>h) ?_ ?_ ?_
 ·rintro ⟨⟩ pre x args X W S l bs pn pn' hbs hpre ⟨rfl,rfl,_⟩
  refine ⟨_,rfl,?_⟩
  refine BIf.dec (fun h3=>?_) (fun h3=>?_)
  ·have h30:x.2= -1:=h3
   exact ⟨(),⟨rfl,x,by simp,h30⟩,Ent.mk' trivial rfl (fun β w hs=>(hs.perm []).lower (n':=1))⟩
  ·have h30: ¬x.2= -1:=h3
   refine ⟨(),?_,Ent.mk' trivial rfl (fun β w hs=>(hs.perm []).lower (n':=1))⟩
   intro y hy
   rcases List.mem_append.1 hy with hy | hy
   ·exact hpre y hy
   ·obtain rfl:=List.mem_singleton.1 hy;exact h30
 ·rintro xs ⟨⟩ Fs hpre ⟨rfl,rfl⟩
  intro β w' hs
  refine (hs.keepB (List.nil_sublist _)).fin [] ⟨?_,rfl⟩
  rw [(z_li _).2 hpre]
  rfl
 ·rintro e pre ⟨⟩ Fs ⟨rfl,x,hx,hxe⟩ ⟨⟨r,hr⟩,rfl⟩
  intro β w' hs
  refine (hs.keepB (List.nil_sublist _)).fin [] ⟨?_,rfl⟩
  have:validB s.data.toList=false:=by
   cases h:validB s.data.toList with
   | false=>rfl
   | true=>exact absurd hxe ((z_li _).1 h x (by rw [hr];exact List.mem_append.2 (.inl hx)))
  rw [this]
  rfl
def blanksL:List Sp:=[(0xa0,0xa0),(0x1680,0x1680),(0x2000,0x200a),(0x202f,0x202f),(0x205f,0x205f),(0x3000,0x3000)]
def nothingL:List Sp:=[(0xad,0xad),(0x200b,0x200d),(0x2060,0x2060),(0xfe00,0xfe0f),(0xfeff,0xfeff)]
def barredL:List Sp:=[(0,0x1f),(0x7f,0x9f),(0x2028,0x2029),(0x202a,0x202e),(0x2066,0x2069),(0xe000,0xf8ff),(0xf0000,0x10ffff),(0xfff9,0xfffd),(0xfdd0,0xfdef)]
def spansF (g:Nat) (l:List Sp):Fact:=rdF 2 (some ⟨g,0,none⟩) l.length (l.flatMap spanV)
def prep1 (z:Int):List Int:=if inSp z blanksL=true then [32] else if inSp z nothingL=true then [] else [z]
def prepAt (l:List Rn):List Int:=l.flatMap fun x=>prep1 x.2
def insPr (t:List UInt8) (pre:List Int) (z:Int) (args:Array Value) (X:Fact):Prop:=args= #[.int .i32 z]/\X=noF/\ ∃r,prepAt (runesAt t 0)=pre++z::r
def prepEnd (t:List UInt8) (J Jx:List Int->Fact->Prop) (Fs:List Fact):Prop:=
 ∃f Fs',Fs=f::Fs'/\((∃xs,J xs f/\xs=prepAt (runesAt t 0)/\Fs'=[])\/(∃pre,Jx pre f/\(∃r,prepAt (runesAt t 0)=pre++r)/\Fs'=[]))
abbrev OF:= {f:Fact//f.own=true}
theorem z_uX (l:Nat) (w:World) (bx:Nat) (s:ByteArray) (f0 R:Fact) (J Jx:List Int->Fact->Prop) (hJ0:J [] f0) (hJo: ∀pre f,J pre f->f.own=true) (hRo:R.own=false) (hY:Yc Tryz.prog l J Jx R (insPr s.data.toList))
  (hl:s.size<=1000000) (hm:Mem w (f0::R::[bkF bx z_ah [.string s],formF,spansF 8 blanksL,spansF 9 nothingL])):
  Con Tryz.prog z_cp #[.func (.yield l) #[] #[],.pointer (some ⟨bx,0,none⟩)] w [f0,bkF bx z_ah [.string s]] (fun _ Fs=>prepEnd s.data.toList J Jx Fs):=by
 have g:=z_hf w (Un [f0,bkF bx z_ah [.string s]]) [bx]
 have hf0:=hJo _ _ hJ0
 have hs0:Sat (z_b2 w (Un [f0,bkF bx z_ah [.string s]]) [bx]) (Va.of fun _=>bx) 1 [] (f0::R::[bkF bx z_ah [.string s],formF,spansF 8 blanksL,spansF 9 nothingL]) w:=by
  refine hm.sat rfl (fun f hf ho k hk=>?_) ⟨Nat.le_refl 1,fun i hi=>by obtain rfl:i=0:=Nat.lt_one_iff.1 hi;rfl⟩
  simp only [List.mem_cons,List.not_mem_nil,or_false] at hf
  rcases hf with rfl | rfl | rfl | rfl | rfl | rfl
  ·exact ⟨_,by simp,hk⟩
  ·rw [hRo] at ho;cases ho
  ·exact ⟨_,by simp,hk⟩
  ·cases ho
  ·cases ho
  ·cases ho
 have hs1:=hs0.toBk 2 rfl 0 Nat.zero_lt_one rfl
 refine z_ad (cx:=z_b2 w (Un [f0,bkF bx z_ah [.string s]]) [bx]) g z_jh rfl rfl (β:=Va.of fun _=>bx) [.c (.v (.func (.yield l) #[] #[])),.c (.p 0 0)] 1 _ _ rfl rfl hs1 ?_
 refine z_ac [] (fun β w hs=>z_rG w s) ?_
 rintro v Fs ⟨bx2,rfl,rfl⟩
 refine z_aB (α:=Rn) (ι:=OF) (κ:=OF) g rfl (cv:=[.pointer (some ⟨bx2,0,none⟩)]) rfl (by kernel_rfl) 2 (Nat.le_refl 2)
  (fun pre i=>J (prepAt pre) i.1) (fun _=>[⟨1,281,[.v (.func (.yield l) #[] #[])]⟩]) (fun i=>[i.1]) (fun i=>⟨i.2,trivial⟩)
  (fun e pre i=>e= .ret/\ ∃p,(∃r,prepAt pre=p++r)/\Jx p i.1) (fun _=>[⟨1,281,[.v (.func (.yield l) #[] #[])]⟩]) (fun i=>[i.1]) (fun i=>⟨i.2,trivial⟩)
  [bkF bx2 z_ah [.string s]] [formF] [R,spansF 8 blanksL,spansF 9 nothingL] ⟨rfl,trivial⟩ (fun g h=>by
   simp only [List.mem_cons,List.not_mem_nil,or_false] at h
   rcases h with rfl | rfl | rfl
   ·exact hRo
   ·rfl
   ·rfl) ⟨f0,hf0⟩ hJ0 (fun β w hs=>⟨β,Agr.refl _ _,?_⟩) (insR s.data.toList)
  (fun xs Fs'=>xs=runesAt s.data.toList 0/\Fs'=[]) (fun pre Fs'=>(∃r,runesAt s.data.toList 0=pre++r)/\Fs'=[])
  (fun l w f0 R J Jx hJ0 hJo hRo hY hm=>(z_pq l w bx2 s f0 R J Jx hJ0 hJo hRo hY hl hm).mono fun _ Fs h=>h) ?_ ?_ ?_
 ·exact (hs.keepB (List.Sublist.cons_cons _ (List.nil_sublist _))).perm [0,3,1,2,4,5]
 ·rintro ⟨f,hfo⟩ pre x args X W S l' bs pn pn' hbs hJ ⟨rfl,rfl,r0,hxr⟩
  simp only at hJ
  refine ⟨_,rfl,?_⟩
  obtain ⟨b1,hb1⟩: ∃b1,inSp x.2 blanksL=b1:=⟨_,rfl⟩
  obtain ⟨b2,hb2⟩: ∃b2,inSp x.2 nothingL=b2:=⟨_,rfl⟩
  refine ⟨6,6,0,6,6,_,rfl,rfl,rfl,Nat.le_refl _,Nat.le_refl _,Nat.zero_le _,rfl,rfl,rfl,?_⟩
  refine z_af (v:= .bool b1) (fun β w' hs=>by
   have h:=z_mJ w' x.2 (some ⟨8,0,none⟩) blanksL 6 (hs.get 3 rfl) (by decide)
   rw [hb1] at h
   exact h) ?_
  have hsn:prepAt (pre++[x])=prepAt pre++prep1 x.2:=by simp [prepAt]
  cases b1 with
  | true=>
   have hz:prep1 x.2=[32]:=by unfold prep1;rw [if_pos hb1]
   refine z_bq (X:=noF) (x:=32) hY 1 2 rfl hJ hfo rfl hRo (by decide) (fun β=>⟨rfl,rfl,prepAt r0,by rw [hxr];simp [prepAt,hz]⟩) rfl (fun β w _=>⟨trivial,fun k hk=>hk.elim,fun k _ h=>h.elim⟩) ?_ ?_
   ·intro f2 hfo2 hJ2
    exact ⟨⟨f2,hfo2⟩,by show J (prepAt (pre++[x])) f2;rw [hsn,hz];exact hJ2,Ent.mk' trivial rfl (fun β w hs=>(hs.perm [0]).lower (n':=2))⟩
   ·intro f2 hfo2 hJ2
    exact ⟨⟨f2,hfo2⟩,⟨rfl,prepAt pre++[32],⟨[],by rw [hsn,hz];simp⟩,hJ2⟩,Ent.mk' trivial rfl (fun β w hs=>(hs.perm [0]).lower (n':=2))⟩
  | false=>
   refine ⟨5,5,0,5,5,_,rfl,rfl,rfl,Nat.le_refl _,Nat.le_refl _,Nat.zero_le _,rfl,rfl,rfl,?_⟩
   refine z_af (v:= .bool b2) (fun β w' hs=>by
    have h:=z_mJ w' x.2 (some ⟨9,0,none⟩) nothingL 5 (hs.get 4 rfl) (by decide)
    rw [hb2] at h
    exact h) ?_
   cases b2 with
   | true=>
    have hz:prep1 x.2=[]:=by unfold prep1;rw [if_neg (by rw [hb1];decide),if_pos hb2]
    exact ⟨⟨f,hfo⟩,by show J (prepAt (pre++[x])) f;rw [hsn,hz,List.append_nil];exact hJ,Ent.mk' trivial rfl (fun β w hs=>(hs.perm [1]).lower (n':=2))⟩
   | false=>
    have hz:prep1 x.2=[x.2]:=by unfold prep1;rw [if_neg (by rw [hb1];decide),if_neg (by rw [hb2];decide)]
    refine z_bq (X:=noF) (x:=x.2) hY 1 2 rfl hJ hfo rfl hRo (by decide) (fun β=>⟨rfl,rfl,prepAt r0,by rw [hxr];simp [prepAt,hz]⟩) rfl (fun β w _=>⟨trivial,fun k hk=>hk.elim,fun k _ h=>h.elim⟩) ?_ ?_
    ·intro f2 hfo2 hJ2
     exact ⟨⟨f2,hfo2⟩,by show J (prepAt (pre++[x])) f2;rw [hsn,hz];exact hJ2,Ent.mk' trivial rfl (fun β w hs=>(hs.perm [0]).lower (n':=2))⟩
    ·intro f2 hfo2 hJ2
     exact ⟨⟨f2,hfo2⟩,⟨rfl,prepAt pre++[x.2],⟨[],by rw [hsn,hz];simp⟩,hJ2⟩,Ent.mk' trivial rfl (fun β w hs=>(hs.perm [0]).lower (n':=2))⟩
 ·rintro xs ⟨f,hfo⟩ Fs hJ ⟨rfl,rfl⟩
  intro β w' hs
  exact (hs.keepB (List.nil_sublist _)).fin [0] ⟨f,[],rfl,.inl ⟨_,hJ,rfl,rfl⟩⟩ rfl rfl rfl ⟨hfo,trivial⟩
 ·rintro e pre ⟨f,hfo⟩ Fs ⟨rfl,p,⟨r,hp⟩,hJx⟩ ⟨⟨r2,hr⟩,rfl⟩
  intro β w' hs
  refine (hs.keepB (List.nil_sublist _)).fin [0] ⟨f,[],rfl,.inr ⟨p,hJx,⟨r++prepAt r2,?_⟩,rfl⟩⟩ rfl rfl rfl ⟨hfo,trivial⟩
  rw [hr,prepAt,List.flatMap_append,<-prepAt,hp,List.append_assoc]
  rfl
theorem z_p5 (w:World) (s:ByteArray):Con Tryz.prog z_gH #[.string s] w [] (fun v Fs=> ∃bx,v= .func (.func z_cp) #[] #[.pointer (some ⟨bx,0,none⟩)]/\Fs=[bkF bx z_ah [.string s]]):=by
 refine z_ad (cx:=z_fE w (Un [])) (z_it w (Un [])) z_k2 rfl rfl (β:=Va.z) [.c (.v (.string s))] 0 [] [] rfl rfl (Sat.start rfl) ?_
 intro β w' hs
 exact hs.ofBk.fin [0] ⟨β 0,rfl,rfl⟩
def form0:Nam.Fm:=⟨1,0x80,0,0⟩
def pickF (r:Nat) (f g:Nam.Fm):Nam.Fm:=if g.least<=r then g else f
def formOf (r:Nat):Nam.Fm:=Nam.fms.foldl (pickF r) form0
def encGo (f:Nam.Fm) (r:Nat):Nat->List UInt8
 | 0=>[]
 | k+1=>(if k=f.size - 1 then f.lead ||| UInt8.ofNat (r/2^(6*k)) else 128 ||| (UInt8.ofNat (r/2^(6*k))&&&63))::encGo f r k
def encL (r:Nat):List UInt8:=encGo (formOf r) r (formOf r).size
theorem z_nh (f:Nam.Fm) (r:Nat): ∀k,(encGo f r k).length=k
 | 0=>rfl
 | k+1=>by simp [encGo,z_nh f r k]
theorem z_m7 (r:Nat): ∀(l:List Nam.Fm) (f:Nam.Fm),f∈Nam.fms->(∀g∈l,g∈Nam.fms)->l.foldl (pickF r) f∈Nam.fms
 | [],_,hf,_=>hf
 | g::l,f,hf,h=>by
  rw [List.foldl_cons]
  refine z_m7 r l _ ?_ (fun x hx=>h x (List.mem_cons_of_mem _ hx))
  unfold pickF
  split
  ·exact h g List.mem_cons_self
  ·exact hf
theorem z_nv:form0∈Nam.fms:=List.mem_cons_self
structure EnS where
 k:Nat
 acc:List UInt8
 A:Option Addr
 c:Nat
theorem z_sk (w:World) (A:Option Addr) (l:List UInt8) (c r:Nat) (z:Int) (hz:z=(r:Int)) (hr31:r<=1114111) (hsg:Nam.sign r=true) (hr:Bs w A l) (hn:l.length<=1000000000) (hf:Forms 10 w):
  Con Tryz.prog z_ii #[.slice A l.length c,.int .i32 z] w [] fun v Fs=> ∃A' c',v= .slice A' (l++encL r).length c'/\(l++encL r).length<=c'/\c'<=maxLen/\Fs=[browF z_ab A' (l++encL r) c']:=by
 have g:=z_kl w (Un [])
 have hml:=z_ag
 refine z_ad (cx:=z_hJ w (Un [])) g z_m6 rfl rfl (β:=Va.z) [.c (.v (.slice A l.length c)),.c (.v (.int .i32 z))] 0 [] [oldF w] rfl rfl (z_aw rfl) ?_
 refine z_af (v:= .bool true) (fun β w' hs=>by
  have h:=z_t1 w' z r hz
  rw [hsg] at h
  exact h) ?_
 refine z_ac [] (fun β w' hs=>z_oy w' A l c (Rd.old hr (hs.get 0 rfl)) (by omega)) ?_
 rintro v Fs ⟨A1,c1,rfl,h1,h1m,rfl⟩
 have hcell: ∀w',(oldF w).p w'-> ∀j u,formCells[j]?=some u->w'.cell? ((⟨10,0,none⟩:Addr).add j)=some u:=by
  intro w' ho j u hu
  obtain ⟨ad,q,hc⟩:=(Forms.old hf ho).2 (by decide)
  cases q
  exact hc j u hu
 refine ⟨0,rfl,by decide,?_⟩
 refine ⟨formV form0,rfl,fun β w' hs=>?_,?_⟩
 ·intro j u hu
  have hj:j<4:=(List.getElem?_eq_some_iff.1 hu).1
  refine hcell w' (hs.get 1 rfl) j u ?_
  have:formCells[j]?=(formV form0)[j]?:=by
   match j,hj with
   | 0,_=>rfl
   | 1,_=>rfl
   | 2,_=>rfl
   | 3,_=>rfl
  rw [this,hu]
 refine ⟨formCells,rfl,fun β w' hs=>hcell w' (hs.get 1 rfl),?_⟩
 refine z_ai (ι:=Nat) 1 (fun i=>[(1,.c (.v (.int .i32 z))),(5,.c (.v (.slice A1 l.length c1))),(6,.c (.p 0 0)),(18,.agg (formCells.map SL.v)),(19,.c (.v (.int .i64 (i:Int))))]) (fun i=>[⟨0,z_aZ,(formV ((Nam.fms.take i).foldl (pickF r) form0)).map SL.v⟩]) (fun _=>[browF z_ab A1 l c1,oldF w])
  (fun i=>i<=4) (fun i=>4 - i) 0 (Nat.zero_le _) (Ent.same ⟨rfl,rfl,rfl,rfl,rfl,trivial⟩ rfl) g ?_
 intro i hi
 refine BIf.dec (fun hlt=>?_) (fun hge=>?_)
 ·have hlt0:(i:Int)<4:=hlt
  have hi4:i<Nam.fms.length:=by show i<4;omega
  obtain ⟨f,hfi,hfm⟩:=at_lt hi4
  have hfold:(Nam.fms.take (i+1)).foldl (pickF r) form0=pickF r ((Nam.fms.take i).foldl (pickF r) form0) f:=by
   rw [List.take_add_one,hfi,List.foldl_append]
   rfl
  refine ⟨i,(formV f).map SL.v,rfl,by omega,z_rK hfi,?_⟩
  refine BIf.dec (fun hls=>?_) (fun hls=>?_)
  ·have hls1:(f.least:Int)<=z:=hls
   rw [pickF,if_pos (by omega)] at hfold
   refine ⟨((i+1:Nat):Int),by rw [wrap_i64 (by omega) (by omega)];rfl,?_⟩
   refine ⟨i+1,by omega,by omega,?_⟩
   rw [hfold]
   exact Ent.mk' ⟨rfl,rfl,rfl,rfl,rfl,trivial⟩ rfl (fun β w hs=>(hs.keepB (List.sublist_cons_self _ _)).lower)
  ·have hls1: ¬(f.least:Int)<=z:=hls
   rw [pickF,if_neg (by omega)] at hfold
   refine ⟨((i+1:Nat):Int),by rw [wrap_i64 (by omega) (by omega)];rfl,?_⟩
   refine ⟨i+1,by omega,by omega,?_⟩
   rw [hfold]
   exact Ent.mk' ⟨rfl,rfl,rfl,rfl,rfl,trivial⟩ rfl (fun β w hs=>(hs.keepB (List.sublist_cons_self _ _)).lower)
 ·have hge0: ¬(i:Int)<4:=hge
  obtain rfl:i=4:=by omega
  have hfe:(Nam.fms.take 4).foldl (pickF r) form0=formOf r:=rfl
  rw [hfe]
  have hfs:=z_ln (z_m7 r Nam.fms form0 z_nv (fun _ h=>h))
  change 1<=(formOf r).size/\(formOf r).size<=4/\_ at hfs
  unfold encL
  generalize formOf r=f at hfs ⊢
  refine ⟨(f.size:Int) - 1,wrap_i64 (by omega) (by omega),?_⟩
  refine z_ai (ι:=EnS) 1 (fun i=>[(1,.c (.v (.int .i32 z))),(5,.c (.v (.slice i.A i.acc.length i.c))),(6,.c (.p 0 0)),(9,.c (.v (.int .i64 ((i.k:Int) - 1))))]) (fun _=>[⟨0,z_aZ,(formV f).map SL.v⟩]) (fun i=>[browF z_ab i.A i.acc i.c,oldF w])
   (fun i=>i.acc++encGo f r i.k=l++encGo f r f.size/\i.k<=f.size/\i.acc.length<=i.c/\i.c<=maxLen/\i.acc.length+i.k=l.length+f.size) (fun i=>i.k) ⟨f.size,l,A1,c1⟩ ⟨rfl,Nat.le_refl _,h1,h1m,rfl⟩ (Ent.same ⟨rfl,rfl,rfl,rfl,trivial⟩ rfl) g ?_
  rintro ⟨k,acc,A2,c2⟩ ⟨hinv,hk,hac,hcm,hlen⟩
  simp only at hinv hk hac hcm hlen
  simp only
  refine BIf.dec (fun hp=>?_) (fun hp=>?_)
  ·have hp0:(0:Int)<=(k:Int) - 1:=hp
   obtain ⟨k',rfl⟩: ∃k',k=k'+1:=⟨k - 1,by omega⟩
   refine ⟨((6*k':Nat):Int),by rw [wrap_i64 (by omega) (by omega)];omega,?_⟩
   refine ⟨by omega,((r/2^(6*k'):Nat):Int),?_,?_⟩
   ·have hmin:min ((6*k':Nat):Int).toNat IntKind.i32.bits=6*k':=by show min (6*k') 32=_;omega
    rw [hmin,hz]
    exact z_rl r (6*k')
   refine ⟨(f.size:Int) - 1,wrap_i64 (by omega) (by omega),?_⟩
   refine BIf.dec (fun he=>?_) (fun he=>?_)
   ·have he0:((k'+1:Nat):Int) - 1=(f.size:Int) - 1:=he
    have henc:encGo f r (k'+1)=(f.lead ||| UInt8.ofNat (r/2^(6*k')))::encGo f r k':=by rw [encGo,if_pos (by omega)]
    refine ⟨_,z_bK _,?_⟩
    refine ⟨_,or8 f.lead (UInt8.ofNat (r/2^(6*k'))),?_⟩
    intro b0
    refine ⟨1,acc.length,acc.length+1,acc.map byte,[f.lead ||| UInt8.ofNat (r/2^(6*k'))].map byte,(acc++[f.lead ||| UInt8.ofNat (r/2^(6*k'))]).map byte,rfl,fun β w hs=>z_am (hs.get 0 rfl),z_aq _,rfl,List.map_append.symm,by rw [z_ag];omega,by show (acc.length+1)*1<=_;omega,?_⟩
    intro A' c' q1 q2 _
    refine ⟨(k':Int) - 1,by rw [wrap_i64 (by omega) (by omega)];omega,?_⟩
    have hle:(acc++[f.lead ||| UInt8.ofNat (r/2^(6*k'))]).length=acc.length+1:=by simp
    refine ⟨⟨k',acc++[f.lead ||| UInt8.ofNat (r/2^(6*k'))],A',c'⟩,⟨by rw [<-hinv,henc];simp,by show k'<=f.size;omega,by show (acc++[f.lead ||| UInt8.ofNat (r/2^(6*k'))]).length<=c';omega,q2,by show (acc++[f.lead ||| UInt8.ofNat (r/2^(6*k'))]).length+k'=_;omega⟩,by show k'<k'+1;omega,?_⟩
    simp only [browF,hle]
    exact Ent.mk' ⟨rfl,rfl,rfl,rfl,trivial⟩ rfl (fun β w hs=>hs.weaken (List.Sublist.refl _) (List.sublist_cons_self _ _))
   ·have he0: ¬((k'+1:Nat):Int) - 1=(f.size:Int) - 1:=he
    have henc:encGo f r (k'+1)=(128 ||| (UInt8.ofNat (r/2^(6*k'))&&&63))::encGo f r k':=by rw [encGo,if_neg (by omega)]
    refine ⟨_,z_bK _,?_⟩
    refine ⟨_,and8 (UInt8.ofNat (r/2^(6*k'))) 63,?_⟩
    refine ⟨_,or8 128 (UInt8.ofNat (r/2^(6*k'))&&&63),?_⟩
    intro b0
    refine ⟨1,acc.length,acc.length+1,acc.map byte,[128 ||| (UInt8.ofNat (r/2^(6*k'))&&&63)].map byte,(acc++[128 ||| (UInt8.ofNat (r/2^(6*k'))&&&63)]).map byte,rfl,fun β w hs=>z_am (hs.get 0 rfl),z_aq _,rfl,List.map_append.symm,by rw [z_ag];omega,by show (acc.length+1)*1<=_;omega,?_⟩
    intro A' c' q1 q2 _
    refine ⟨(k':Int) - 1,by rw [wrap_i64 (by omega) (by omega)];omega,?_⟩
    have hle:(acc++[128 ||| (UInt8.ofNat (r/2^(6*k'))&&&63)]).length=acc.length+1:=by simp
    refine ⟨⟨k',acc++[128 ||| (UInt8.ofNat (r/2^(6*k'))&&&63)],A',c'⟩,⟨by rw [<-hinv,henc];simp,by show k'<=f.size;omega,by show (acc++[128 ||| (UInt8.ofNat (r/2^(6*k'))&&&63)]).length<=c';omega,q2,by show (acc++[128 ||| (UInt8.ofNat (r/2^(6*k'))&&&63)]).length+k'=_;omega⟩,by show k'<k'+1;omega,?_⟩
    simp only [browF,hle]
    exact Ent.mk' ⟨rfl,rfl,rfl,rfl,trivial⟩ rfl (fun β w hs=>hs.weaken (List.Sublist.refl _) (List.sublist_cons_self _ _))
  ·have hp0: ¬(0:Int)<=(k:Int) - 1:=hp
   obtain rfl:k=0:=by omega
   simp only [encGo,List.append_nil] at hinv
   intro β w' hs
   refine (hs.keepB (List.nil_sublist _)).fin [0] ⟨A2,c2,by rw [<-hinv];rfl,by rw [<-hinv];exact hac,hcm,by rw [<-hinv];rfl⟩
end Go.Proofs.YtloeaiafphkjnaaGreatDoor.Sx
namespace Go.Proofs.YtloeaiafphkjnaaGreatDoor.Sx
open Go
theorem z_sf {s:List UInt8} {r:Nat} (h:(Nam.decL s).1=some r):Nam.sign r=true:=by
 unfold Nam.decL at h
 split at h
 ·rename_i f hf
  split at h
  ·rename_i q hq
   obtain rfl:=Option.some.inj h
   unfold Nam.tryF at hq
   split at hq
   ·cases hq
   ·split at hq
    ·split at hq
     ·rename_i hh
      obtain rfl:=Option.some.inj hq
      exact hh.2
     ·cases hq
    ·cases hq
  ·cases h
 ·cases h
theorem z_mc {r:Nat}: ∀(k:Nat) (l:List UInt8),l.length<=k->some r∈Nam.runes l->Nam.sign r=true:=by
 intro k
 induction k with
 | zero=>
  intro l h hm
  obtain rfl:l=[]:=List.length_eq_zero_iff.1 (by omega)
  rw [Nam.runes_nil] at hm
  cases hm
 | succ k ih=>
  intro l h hm
  by_cases hl:l=[]
  ·subst hl
   rw [Nam.runes_nil] at hm
   cases hm
  ·have h1:=Nam.decL_size hl
   rw [Nam.runes_cons hl] at hm
   rcases List.mem_cons.1 hm with hm | hm
   ·exact z_sf hm.symm
   ·exact ih _ (by rw [List.length_drop];omega) hm
def prepO (l:List (Option Nat)):List Int:=l.flatMap fun o=>prep1 (runeI o)
theorem z_nF (l:List UInt8):prepAt (runesAt l 0)=prepO (Nam.runes l):=by
 have h:=z_eh l _ 0 (Nat.le_refl _)
 rw [List.drop_zero] at h
 have e1:prepAt (runesAt l 0)=((runesAt l 0).map (·.2)).flatMap prep1:=by rw [prepAt,List.flatMap_map]
 rw [e1,h,List.flatMap_map]
 rfl
theorem z_q1 {r:Nat} (h:Nam.sign r=true):r<=1114111:=by
 unfold Nam.sign at h
 simp only [Bool.and_eq_true,decide_eq_true_eq] at h
 exact h.1
theorem z_rt {l:List UInt8} (hv:validB l=true) {z:Int} (hz:z∈prepAt (runesAt l 0)): ∃r:Nat,z=(r:Int)/\Nam.sign r=true/\r<=1114111:=by
 rw [z_nF] at hz
 obtain ⟨o,ho,hz⟩:=List.mem_flatMap.1 hz
 cases o with
 | none=>
  have:=List.all_eq_true.1 hv none ho
  cases this
 | some r=>
  have hs:=z_mc l.length l (Nat.le_refl _) ho
  unfold prep1 at hz
  split at hz
  ·obtain rfl:=List.mem_singleton.1 hz
   exact ⟨32,rfl,by decide,by decide⟩
  ·split at hz
   ·cases hz
   ·obtain rfl:=List.mem_singleton.1 hz
    exact ⟨r,rfl,hs,z_q1 hs⟩
def badZ (z:Int):Bool:=inSp z barredL || decide (bits .and .i32 z 65534=65534)
def encZ (z:Int):List UInt8:=encL z.toNat
def prepF (l:List UInt8):List UInt8×Int:=
 if validB l=true then if (prepAt (runesAt l 0)).any badZ=true then ([],5) else ((prepAt (runesAt l 0)).flatMap encZ,0) else ([],4)
end Go.Proofs.YtloeaiafphkjnaaGreatDoor.Sx
namespace Go.Proofs.YtloeaiafphkjnaaGreatDoor.Sx
open Go
attribute [local irreducible] Calls
def mkS (l:List UInt8):ByteArray:=⟨l.toArray⟩
theorem z_tj (z:Int):(encZ z).length<=4:=by
 unfold encZ encL
 rw [z_nh]
 have:=z_ln (z_m7 z.toNat Nam.fms form0 z_nv (fun _ h=>h))
 exact this.2.1
theorem z_qT (z:Int):(prep1 z).length<=1:=by
 unfold prep1
 split
 ·exact Nat.le_refl _
 ·split
  ·exact Nat.zero_le _
  ·exact Nat.le_refl _
theorem z_lD (l:List UInt8): ∀(k i:Nat),l.length - i<=k->(runesAt l i).length<=l.length - i:=by
 intro k
 induction k with
 | zero=>intro i h;rw [z_cq (by omega)];exact Nat.zero_le _
 | succ k ih=>
  intro i h
  by_cases hi:i<l.length
  ·have h1:=Nam.decL_size (z_gu hi)
   rw [z_ee hi,List.length_cons]
   have:=ih (i+(Nam.decL (l.drop i)).2) (by omega)
   omega
  ·rw [z_cq hi];exact Nat.zero_le _
theorem z_ol {α β:Type} (f:α->List β) (n:Nat) (h: ∀x,(f x).length<=n): ∀l:List α,(l.flatMap f).length<=n*l.length
 | []=>by simp
 | x::r=>by
  rw [List.flatMap_cons,List.length_append,List.length_cons]
  have h1:=h x
  have h2:=z_ol f n h r
  rw [Nat.mul_succ]
  omega
theorem z_pO (l:List UInt8):(prepAt (runesAt l 0)).length<=l.length:=by
 have h1:=z_ol (fun x:Rn=>prep1 x.2) 1 (fun x=>z_qT x.2) (runesAt l 0)
 have h2:=z_lD l _ 0 (Nat.le_refl _)
 unfold prepAt
 omega
structure PrS8 where
 out:List UInt8
 A:Option Addr
 c:Nat
theorem z_qY (w0:World) (s:ByteArray) (hl:s.size<=100000) (hf:Forms 10 w0) (h5:(spansF 8 blanksL).p w0) (h6:(spansF 9 nothingL).p w0) (h4:(spansF 4 barredL).p w0):
  Pu Tryz.prog z_hD #[.string s] w0 (.tuple #[.string (mkS (prepF s.data.toList).1),.int .i64 (prepF s.data.toList).2]):=by
 have g:=z_jD w0 (Un [])
 have hlen:s.data.toList.length=s.size:=rfl
 have own2: ∀ {f1 f2 f3 f4:Fact},f1.own=false->f2.own=false->f3.own=false->f4.own=false-> ∀g∈[f1,f2,f3,f4],g.own=false:=by
  intro f1 f2 f3 f4 e1 e2 e3 e4 g hg
  simp only [List.mem_cons,List.not_mem_nil,or_false] at hg
  rcases hg with rfl | rfl | rfl | rfl<;>assumption
 have st:Sat (z_aJ w0 (Un [])) Va.z 0 [] [formF,formF,spansF 8 blanksL,spansF 9 nothingL,spansF 4 barredL] w0:=by
  have s1:Sat (z_aJ w0 (Un [])) Va.z 0 [] [spansF 4 barredL] w0:=(Sat.start rfl).rd (fun _ h=>by cases h) h4
  have s2:Sat (z_aJ w0 (Un [])) Va.z 0 [] [spansF 9 nothingL,spansF 4 barredL] w0:=s1.rd (fun g hg=>own2 (f1:=spansF 4 barredL) (f2:=noF) (f3:=noF) (f4:=noF) rfl rfl rfl rfl g (by obtain rfl:=List.mem_singleton.1 hg;simp)) h6
  have s3:Sat (z_aJ w0 (Un [])) Va.z 0 [] [spansF 8 blanksL,spansF 9 nothingL,spansF 4 barredL] w0:=s2.rd (fun g hg=>own2 (f1:=spansF 9 nothingL) (f2:=spansF 4 barredL) (f3:=noF) (f4:=noF) rfl rfl rfl rfl g (by simp only [List.mem_cons,List.not_mem_nil,or_false] at hg ⊢;rcases hg with h | h<;>simp [h])) h5
  have s4:Sat (z_aJ w0 (Un [])) Va.z 0 [] [formF,spansF 8 blanksL,spansF 9 nothingL,spansF 4 barredL] w0:=s3.rd (fun g hg=>own2 (f1:=spansF 8 blanksL) (f2:=spansF 9 nothingL) (f3:=spansF 4 barredL) (f4:=noF) rfl rfl rfl rfl g (by simp only [List.mem_cons,List.not_mem_nil,or_false] at hg ⊢;rcases hg with h | h | h<;>simp [h])) hf
  exact s4.rd (own2 rfl rfl rfl rfl) hf
 refine z_ad (cx:=z_aJ w0 (Un [])) g z_lY rfl rfl (β:=Va.z) [.c (.v (.string s))] 0 [] _ rfl rfl st ?_
 obtain ⟨bv,hv⟩: ∃bv,validB s.data.toList=bv:=⟨_,rfl⟩
 refine z_af (v:= .bool bv) (fun β w hs=>by
  have h:=z_uu w s (by omega) (hs.get 0 rfl)
  rw [hv] at h
  exact h) ?_
 cases bv with
 | false=>
  intro β w' hs
  refine (hs.keepB (List.nil_sublist _)).fin [] ⟨?_,rfl⟩
  unfold prepF
  rw [hv]
  rfl
 | true=>
  refine z_ac [] (fun β w hs=>z_p5 w s) ?_
  rintro v Fs ⟨bx,rfl,rfl⟩
  obtain ⟨T,hT⟩: ∃T,prepAt (runesAt s.data.toList 0)=T:=⟨_,rfl⟩
  have hTl:T.length<=100000:=by
   have:=z_pO s.data.toList
   rw [hT] at this
   omega
  have hpr:prepF s.data.toList=if T.any badZ=true then ([],5) else (T.flatMap encZ,0):=by unfold prepF;rw [if_pos hv,hT]
  refine z_aB (α:=Int) (ι:=PrS8) (κ:=Unit) g rfl (cv:=[.pointer (some ⟨bx,0,none⟩)]) rfl (by kernel_rfl) 3 (Nat.le_refl 3)
   (fun pre i=>pre.any badZ=false/\i.out=pre.flatMap encZ) (fun i=>[⟨2,z_al,[.v (.slice i.A i.out.length i.c)]⟩,⟨1,z_as,[.v (.int .i64 0)]⟩,⟨0,z_ah,[.v (.string (mkS []))]⟩]) (fun i=>[browF z_ab i.A i.out i.c]) (fun i=>⟨rfl,trivial⟩)
   (fun e pre _=>e= .ret/\pre.any badZ=true) (fun _=>[⟨1,z_as,[.v (.int .i64 5)]⟩,⟨0,z_ah,[.v (.string (mkS []))]⟩]) (fun _=>[]) (fun _=>trivial)
   [bkF bx z_ah [.string s]] [formF,spansF 8 blanksL,spansF 9 nothingL] [formF,spansF 4 barredL] ⟨rfl,trivial⟩ (fun g h=>by
    simp only [List.mem_cons,List.not_mem_nil,or_false] at h
    rcases h with rfl | rfl<;>rfl) ⟨[],none,0⟩ ⟨rfl,rfl⟩ (fun β w hs=>⟨β,Agr.refl _ _,?_⟩) (insPr s.data.toList)
   (fun xs Fs'=>xs=T/\Fs'=[]) (fun pre Fs'=>(∃r,T=pre++r)/\Fs'=[])
   (fun l w f0 R J Jx hJ0 hJo hRo hY hm=>(z_uX l w bx s f0 R J Jx hJ0 hJo hRo hY (by omega) hm).mono fun _ Fs h=>by rw [<-hT];exact h) ?_ ?_ ?_
  ·exact (hs.nilRow z_ab 1).perm [1,2,4,5,0,3,6]
  ·rintro ⟨out,A,c⟩ pre z args X W S l' bs pn pn' hbs ⟨hno,hout⟩ ⟨rfl,rfl,r0,hzr⟩
   simp only at hno hout
   rw [hT] at hzr
   refine ⟨_,rfl,?_⟩
   obtain ⟨b1,hb1⟩: ∃b1,inSp z barredL=b1:=⟨_,rfl⟩
   refine ⟨9,9,0,9,9,_,rfl,rfl,rfl,Nat.le_refl _,Nat.le_refl _,Nat.zero_le _,rfl,rfl,rfl,?_⟩
   refine z_af (v:= .bool b1) (fun β w' hs=>by
    have h:=z_mJ w' z (some ⟨4,0,none⟩) barredL 9 (hs.get 3 rfl) (by decide)
    rw [hb1] at h
    exact h) ?_
   cases b1 with
   | true=>
    have hbz:badZ z=true:=by unfold badZ;rw [hb1];rfl
    exact ⟨(),⟨rfl,by rw [List.any_append,List.any_cons,hbz];simp⟩,Ent.mk' trivial rfl (fun β w hs=>((hs.keepB (List.sublist_cons_self _ _)).perm []).lower (n':=3))⟩
   | false=>
    obtain ⟨y,hy⟩: ∃y,bits .and .i32 z 65534=y:=⟨_,rfl⟩
    refine ⟨y,hy,?_⟩
    refine BIf.dec (fun h3=>?_) (fun h3=>?_)
    ·have h30:y=65534:=h3
     have hbz:badZ z=true:=by unfold badZ;rw [hb1,hy,decide_eq_true h30];rfl
     exact ⟨(),⟨rfl,by rw [List.any_append,List.any_cons,hbz];simp⟩,Ent.mk' trivial rfl (fun β w hs=>((hs.keepB (List.sublist_cons_self _ _)).perm []).lower (n':=3))⟩
    ·have h30: ¬y=65534:=h3
     have hbz:badZ z=false:=by unfold badZ;rw [hb1,hy,decide_eq_false h30];rfl
     obtain ⟨r,hz,hsg,hr31⟩:=z_rt hv (z:=z) (by rw [hT,hzr];simp)
     have hol:out.length<=400000:=by
      have h8:=z_ol encZ 4 z_tj pre
      have h9:pre.length<=T.length:=by rw [hzr,List.length_append];omega
      rw [hout]
      omega
     refine z_ac [] (fun β w' hs=>z_sk w' A out c r z hz hr31 hsg (z_am (hs.get 1 rfl)) (by omega) (hs.get 2 rfl)) ?_
     rintro v Fs ⟨A',c',rfl,q1,q2,rfl⟩
     exact ⟨⟨out++encL r,A',c'⟩,⟨by rw [List.any_append,hno,List.any_cons,hbz];rfl,by rw [hout,List.flatMap_append];simp [encZ,hz]⟩,Ent.mk' trivial rfl (fun β w hs=>(hs.perm [0]).lower (n':=3))⟩
  ·rintro xs ⟨out,A,c⟩ Fs ⟨hno,hout⟩ ⟨rfl,rfl⟩
   simp only at hno hout
   rw [if_neg (by rw [hno];decide)] at hpr
   refine ⟨out,fun β w hs=>z_am (hs.get 0 rfl),?_⟩
   intro β w' hs
   refine (hs.keepB (List.nil_sublist _)).fin [] ⟨?_,rfl⟩
   rw [hpr,<-hout]
   rfl
  ·rintro e pre ⟨⟩ Fs ⟨rfl,hbad⟩ ⟨⟨r,hr⟩,rfl⟩
   rw [if_pos (by rw [hr,List.any_append,hbad];rfl)] at hpr
   intro β w' hs
   refine (hs.keepB (List.nil_sublist _)).fin [] ⟨?_,rfl⟩
   rw [hpr]
   rfl
def sizF (l:List UInt8) (most:Nat):List UInt8×Int:=
 if (prepF l).2=0 then if (prepF l).1=[] then ([],2) else if most<(prepF l).1.length then ([],3) else ((prepF l).1,0) else ([],(prepF l).2)
theorem mkS_nil {p:List UInt8}:mkS p=mkS []↔p=[]:=by
 constructor
 ·intro h
  have:=congrArg (fun s:ByteArray=>s.data.toList) h
  simpa [mkS] using this
 ·rintro rfl;rfl
theorem z_uE (w:World) (s:ByteArray) (most:Nat) (hmost:most<=1000000) (hl:s.size<=100000) (hf:Forms 10 w) (h5:(spansF 8 blanksL).p w) (h6:(spansF 9 nothingL).p w) (h4:(spansF 4 barredL).p w):
  Pu Tryz.prog z_j4 #[.string s,.int .i64 (most:Int)] w (.tuple #[.string (mkS (sizF s.data.toList most).1),.int .i64 (sizF s.data.toList most).2]):=by
 have g:=z_kS w (Un [])
 refine z_ad (cx:=z_fp w (Un [])) g z_n0 rfl rfl (β:=Va.z) [.c (.v (.string s)),.c (.v (.int .i64 (most:Int)))] 0 [] [oldF w] rfl rfl (z_aw rfl) ?_
 obtain ⟨p,e,hpe⟩: ∃p e,prepF s.data.toList=(p,e):=⟨_,_,rfl⟩
 have hz:sizF s.data.toList most=if e=0 then if p=[] then ([],2) else if most<p.length then ([],3) else (p,0) else ([],e):=by unfold sizF;rw [hpe]
 refine z_af (v:= .tuple #[.string (mkS p),.int .i64 e]) (fun β w' hs=>by
  have h:=z_qY w' s hl (Forms.old hf (hs.get 0 rfl)) (Rd.old h5 (hs.get 0 rfl)) (Rd.old h6 (hs.get 0 rfl)) (Rd.old h4 (hs.get 0 rfl))
  rw [hpe] at h
  exact h) ?_
 have fin: ∀(q:List UInt8) (d:Int),sizF s.data.toList most=(q,d)-> ∀ {n:Nat} {H:List Bk} {F:List Fact} (β:Va) (w':World),Sat (z_fp w (Un [])) β n H F w'->Fin w [] (fun u Fs=>u= .tuple #[.string (mkS (sizF s.data.toList most).1),.int .i64 (sizF s.data.toList most).2]/\Fs=[]) (.tuple #[.string (mkS q),.int .i64 d]) w':=by
  intro q d h n H F β w' hs
  rw [h]
  exact (hs.keepB (List.nil_sublist _)).fin [] ⟨rfl,rfl⟩
 refine BIf.not (BIf.dec (fun he=>?_) (fun he=>?_))
 ·have he0:e=0:=he
  rw [if_pos he0] at hz
  refine BIf.dec (p:=mkS p=mkS []) (fun hp=>?_) (fun hp=>?_)
  ·rw [if_pos (mkS_nil.1 hp)] at hz
   exact fin [] 2 hz
  ·rw [if_neg (fun q=>hp (mkS_nil.2 q))] at hz
   have hsz:(mkS p).size=p.length:=by simp [mkS,ByteArray.size]
   refine BIf.dec (fun hm=>?_) (fun hm=>?_)
   ·have hm0:(most:Int)<((mkS p).size:Int):=hm
    rw [hsz] at hm0
    rw [if_pos (by omega)] at hz
    exact fin [] 3 hz
   ·have hm0: ¬(most:Int)<((mkS p).size:Int):=hm
    rw [hsz] at hm0
    rw [if_neg (by omega)] at hz
    rw [he0]
    exact fin p 0 hz
 ·have he0: ¬e=0:=he
  rw [if_neg he0] at hz
  exact fin [] e hz
theorem z_vN (w:World) (s:ByteArray) (hl:s.size<=100000) (hf:Forms 10 w) (h5:(spansF 8 blanksL).p w) (h6:(spansF 9 nothingL).p w) (h4:(spansF 4 barredL).p w):
  Pu Tryz.prog z_hW #[.string s] w (.tuple #[.string (mkS (sizF s.data.toList 32).1),.int .i64 (sizF s.data.toList 32).2]):=by
 have g:=z_l4 w (Un [])
 refine z_ad (cx:=z_j6 w (Un [])) g z_oh rfl rfl (β:=Va.z) [.c (.v (.string s))] 0 [] [oldF w] rfl rfl (z_aw rfl) ?_
 refine z_af (fun β w' hs=>z_uE w' s 32 (by decide) hl (Forms.old hf (hs.get 0 rfl)) (Rd.old h5 (hs.get 0 rfl)) (Rd.old h6 (hs.get 0 rfl)) (Rd.old h4 (hs.get 0 rfl))) ?_
 intro β w' hs
 exact hs.fin [] ⟨rfl,rfl⟩
end Go.Proofs.YtloeaiafphkjnaaGreatDoor.Sx
namespace Go.Proofs.YtloeaiafphkjnaaGreatDoor.Sx
open Go
def rblank (r:Int):Bool:=decide (r=160\/r=5760\/(8192<=r/\r<=8202)\/r=8239\/r=8287\/r=12288)
def rgoes (r:Int):Bool:=decide (r=173\/(8203<=r/\r<=8205)\/r=8288\/(65024<=r/\r<=65039)\/r=65279)
def rbars (r:Int):Bool:=decide (r<=31\/(127<=r/\r<=159)\/(8232<=r/\r<=8238)\/(8294<=r/\r<=8297)\/(57344<=r/\r<=63743)\/983040<=r\/(65529<=r/\r<=65533)\/(64976<=r/\r<=65007)\/65534<=r%65536)
theorem z_se (r:Int):rblank r=inSp r blanksL:=by
 unfold rblank inSp blanksL
 simp only [List.any_cons,List.any_nil,Bool.or_false]
 rw [Bool.eq_iff_iff]
 simp only [decide_eq_true_eq,Bool.or_eq_true,Bool.and_eq_true]
 omega
theorem z_s8 (r:Int):rgoes r=inSp r nothingL:=by
 unfold rgoes inSp nothingL
 simp only [List.any_cons,List.any_nil,Bool.or_false]
 rw [Bool.eq_iff_iff]
 simp only [decide_eq_true_eq,Bool.or_eq_true,Bool.and_eq_true]
 omega
theorem z_sX {x:Nat} (hx:x<2147483648):bits .and .i32 (x:Int) 65534=65534↔65534<=x%65536:=by
 have e:bits .and .i32 (x:Int) 65534=((x&&&65534:Nat):Int):=by
  show IntKind.i32.wrap ((((BitVec.ofInt 32 (x:Int))&&&(BitVec.ofInt 32 65534)).toNat:Nat):Int)=_
  have h1:(BitVec.ofInt 32 (x:Int)).toNat=x:=by rw [BitVec.toNat_ofInt];omega
  have h2:(BitVec.ofInt 32 65534).toNat=65534:=by decide
  rw [BitVec.toNat_and,h1,h2]
  have:=Nat.and_le_left (n:=x) (m:=65534)
  exact z_iH (by omega) (by omega)
 rw [e]
 have h:x&&&65534=(x%65536)/2*2:=by
  apply Nat.eq_of_testBit_eq
  intro i
  have h3:(x%65536)/2*2=((x%2^16)>>>1)<<<1:=by rw [Nat.shiftRight_eq_div_pow,Nat.shiftLeft_eq]
  have h4:(65534:Nat)=(2^15 - 1)<<<1:=by decide
  rw [h3,h4,Nat.testBit_and,Nat.testBit_shiftLeft,Nat.testBit_shiftLeft,Nat.testBit_shiftRight,Nat.testBit_mod_two_pow,Nat.testBit_two_pow_sub_one]
  by_cases hi:1<=i
  ·have e2:1+(i - 1)=i:=by omega
   have e3:decide (i - 1<15)=decide (i<16):=decide_eq_decide.2 (by omega)
   rw [decide_eq_true hi,e2,e3,Bool.true_and,Bool.true_and,Bool.and_comm]
  ·rw [decide_eq_false hi];simp
 rw [h]
 omega
theorem z_tp {x:Nat} (hx:x<=1114111):rbars (x:Int)=badZ (x:Int):=by
 unfold rbars badZ inSp barredL
 simp only [List.any_cons,List.any_nil,Bool.or_false]
 rw [Bool.eq_iff_iff]
 simp only [decide_eq_true_eq,Bool.or_eq_true,Bool.and_eq_true]
 rw [z_sX (by omega)]
 omega
def rbytesL (r:Nat):List UInt8:=
 if r<128 then [UInt8.ofNat r]
 else if r<2048 then [UInt8.ofNat (192+r/64),UInt8.ofNat (128+r%64)]
 else if r<65536 then [UInt8.ofNat (224+r/4096),UInt8.ofNat (128+r/64%64),UInt8.ofNat (128+r%64)]
 else [UInt8.ofNat (240+r/262144),UInt8.ofNat (128+r/4096%64),UInt8.ofNat (128+r/64%64),UInt8.ofNat (128+r%64)]
theorem low6 (y:Nat):128 ||| (UInt8.ofNat y&&&63)=UInt8.ofNat (128+y%64):=by
 have key: ∀n:_root_.Fin 256,128 ||| (UInt8.ofNat n.1&&&63)=UInt8.ofNat (128+n.1%64):=by decide+kernel
 have h:=key ⟨y%256,Nat.mod_lt _ (by decide)⟩
 have e1:UInt8.ofNat (y%256)=UInt8.ofNat y:=by apply UInt8.toNat_inj.1;simp
 simp only [e1] at h
 rw [h]
 congr 2
 omega
theorem hi2 {y:Nat} (h:y<32):192 ||| UInt8.ofNat y=UInt8.ofNat (192+y):=by
 have key: ∀n:_root_.Fin 32,192 ||| UInt8.ofNat n.1=UInt8.ofNat (192+n.1):=by decide+kernel
 exact key ⟨y,h⟩
theorem hi3 {y:Nat} (h:y<16):224 ||| UInt8.ofNat y=UInt8.ofNat (224+y):=by
 have key: ∀n:_root_.Fin 16,224 ||| UInt8.ofNat n.1=UInt8.ofNat (224+n.1):=by decide+kernel
 exact key ⟨y,h⟩
theorem hi4 {y:Nat} (h:y<8):240 ||| UInt8.ofNat y=UInt8.ofNat (240+y):=by
 have key: ∀n:_root_.Fin 8,240 ||| UInt8.ofNat n.1=UInt8.ofNat (240+n.1):=by decide+kernel
 exact key ⟨y,h⟩
theorem z_uD {r:Nat} (hr:r<=1114111):encL r=rbytesL r:=by
 unfold rbytesL
 have hf:formOf r=if r<128 then form0 else if r<2048 then ⟨2,0xe0,0xc0,0x80⟩ else if r<65536 then ⟨3,0xf0,0xe0,0x800⟩ else ⟨4,0xf8,0xf0,0x10000⟩:=by
  simp only [formOf,Nam.fms,List.foldl_cons,List.foldl_nil,pickF,Nat.zero_le,if_true]
  by_cases h1:r<128
  ·rw [if_pos h1,if_neg (by omega),if_neg (by omega),if_neg (by omega)];rfl
  ·by_cases h2:r<2048
   ·rw [if_neg h1,if_pos h2,if_neg (by omega),if_neg (by omega),if_pos (by omega)]
   ·by_cases h3:r<65536
    ·rw [if_neg h1,if_neg h2,if_pos h3,if_neg (by omega),if_pos (by omega)]
    ·rw [if_neg h1,if_neg h2,if_neg h3,if_pos (by omega)]
 unfold encL
 rw [hf]
 by_cases h1:r<128
 ·rw [if_pos h1,if_pos h1]
  show [0 ||| UInt8.ofNat (r/1)]=_
  rw [Nat.div_one,UInt8.zero_or]
 ·by_cases h2:r<2048
  ·rw [if_neg h1,if_pos h2,if_neg h1,if_pos h2]
   show [192 ||| UInt8.ofNat (r/64),128 ||| (UInt8.ofNat (r/1)&&&63)]=_
   rw [low6,hi2 (by omega),Nat.div_one]
  ·by_cases h3:r<65536
   ·rw [if_neg h1,if_neg h2,if_pos h3,if_neg h1,if_neg h2,if_pos h3]
    show [224 ||| UInt8.ofNat (r/4096),128 ||| (UInt8.ofNat (r/64)&&&63),128 ||| (UInt8.ofNat (r/1)&&&63)]=_
    rw [low6,low6,hi3 (by omega),Nat.div_one]
   ·rw [if_neg h1,if_neg h2,if_neg h3,if_neg h1,if_neg h2,if_neg h3]
    show [240 ||| UInt8.ofNat (r/262144),128 ||| (UInt8.ofNat (r/4096)&&&63),128 ||| (UInt8.ofNat (r/64)&&&63),128 ||| (UInt8.ofNat (r/1)&&&63)]=_
    rw [low6,low6,low6,hi4 (by omega),Nat.div_one]
def prepR:List Int->Option (List UInt8)
 | []=>some []
 | z::l=>if rblank z=true then (prepR l).map ([32]++ ·) else if rgoes z=true then prepR l else if rbars z=true then none else (prepR l).map (rbytesL z.toNat++ ·)
theorem z_pg: ∀(l:List Int),(∀z∈l,∃x:Nat,z=(x:Int)/\x<=1114111)->prepR l=if (l.flatMap prep1).any badZ=true then none else some ((l.flatMap prep1).flatMap encZ)
 | [],_=>rfl
 | z::l,h=>by
  obtain ⟨x,rfl,hx⟩:=h z List.mem_cons_self
  have ih:=z_pg l (fun y hy=>h y (List.mem_cons_of_mem _ hy))
  have e32:encZ 32=[32]:=by decide
  have b32:badZ 32=false:=by decide
  simp only [prepR,List.flatMap_cons,prep1]
  rw [z_se,z_s8,ih]
  by_cases h1:inSp (x:Int) blanksL=true
  ·rw [if_pos h1,if_pos h1]
   by_cases hb:(l.flatMap prep1).any badZ=true
   ·rw [if_pos hb,if_pos (by rw [List.any_append,hb];simp)];rfl
   ·rw [if_neg hb,if_neg (by rw [List.any_append];simp only [List.any_cons,b32,List.any_nil,Bool.or_false,Bool.false_or];exact hb)]
    simp only [Option.map_some,List.flatMap_append,List.flatMap_cons,List.flatMap_nil,e32,List.append_nil]
  ·rw [if_neg h1,if_neg h1]
   by_cases h2:inSp (x:Int) nothingL=true
   ·rw [if_pos h2,if_pos h2];rfl
   ·rw [if_neg h2,if_neg h2,z_tp hx]
    by_cases h3:badZ (x:Int)=true
    ·rw [if_pos h3,if_pos (by rw [List.any_append,List.any_cons,h3];rfl)]
    ·rw [if_neg h3]
     have h3':badZ (x:Int)=false:=by simpa using h3
     by_cases hb:(l.flatMap prep1).any badZ=true
     ·rw [if_pos hb,if_pos (by rw [List.any_append,hb];simp)];rfl
     ·rw [if_neg hb,if_neg (by rw [List.any_append,List.any_cons,h3'];simpa using hb)]
      simp only [Option.map_some,List.flatMap_append,List.flatMap_cons,List.flatMap_nil,List.append_nil]
      rw [encZ,z_uD (by omega)]
theorem z_nS {l:List UInt8} (hv:validB l=true): ∀x∈runesAt l 0,∃r:Nat,x.2=(r:Int)/\Nam.sign r=true/\r<=1114111:=by
 intro x hx
 have h:=z_eh l _ 0 (Nat.le_refl _)
 rw [List.drop_zero] at h
 have hm:x.2∈(Nam.runes l).map runeI:=by rw [<-h];exact List.mem_map.2 ⟨x,hx,rfl⟩
 obtain ⟨o,ho,he⟩:=List.mem_map.1 hm
 cases o with
 | none=>have:=List.all_eq_true.1 hv none ho;cases this
 | some r=>
  have hs:=z_mc l.length l (Nat.le_refl _) ho
  exact ⟨r,he.symm,hs,z_q1 hs⟩
theorem z_s1 (l:List UInt8):prepF l=if validB l=true then (match prepR ((runesAt l 0).map (·.2)) with | none=>(([],5):List UInt8×Int) | some p=>(p,0)) else ([],4):=by
 unfold prepF
 by_cases hv:validB l=true
 ·rw [if_pos hv,if_pos hv]
  have h:=z_pg ((runesAt l 0).map (·.2)) (fun z hz=>by
   obtain ⟨x,hx,rfl⟩:=List.mem_map.1 hz
   obtain ⟨r,h1,_,h3⟩:=z_nS hv x hx
   exact ⟨r,h1,h3⟩)
  have e1:prepAt (runesAt l 0)=((runesAt l 0).map (·.2)).flatMap prep1:=by rw [prepAt,List.flatMap_map]
  rw [h,e1]
  split<;>rfl
 ·rw [if_neg hv,if_neg hv]
end Go.Proofs.YtloeaiafphkjnaaGreatDoor.Sx
namespace Go.Proofs.YtloeaiafphkjnaaGreatDoor.Sx
open Go
attribute [local irreducible] Calls
def okc (x:UInt8):Bool:=decide ((97<=x.toNat/\x.toNat<=122)\/(48<=x.toNat/\x.toNat<=57)\/x.toNat=45\/x.toNat=95)
def plainF (l:List UInt8):Bool:=l.all okc&&(decide (l≠[])&&decide (l.length<=32))
set_option maxHeartbeats 1000000 in
theorem z_oq (w:World) (s:ByteArray) (hl:s.size<=100000):Pu Tryz.prog z_jT #[.string s] w (.bool (plainF s.data.toList)):=by
 have g:=z_lO w (Un [])
 have hlen:s.data.toList.length=s.size:=rfl
 refine z_ad (cx:=z_fg w (Un [])) g z_nY rfl rfl (β:=Va.z) [.c (.v (.string s))] 0 [] [] rfl rfl (Sat.start rfl) ?_
 intro b c hc _
 refine z_ai 0 (fun k:Nat=>[(0,.c (.v (.string s))),(6,.c (.v (.slice (some ⟨b,0,none⟩) s.size c))),(7,.c (.v (.int .i64 s.size))),(8,.c (.v (.int .i64 (k:Int))))]) (fun _=>[]) (fun _=>[rdoF 1 (some ⟨b,0,none⟩) s.size (s.data.toList.map byte)])
  (fun k=>k<=s.size/\(s.data.toList.take k).all okc=true) (fun k=>s.size - k) 0 ⟨Nat.zero_le _,rfl⟩ (Ent.same ⟨rfl,rfl,rfl,rfl,trivial⟩ rfl) g ?_
 rintro k ⟨hk,hall⟩
 refine BIf.dec (fun hlt=>?_) (fun hge=>?_)
 ·have hlt0:(k:Int)<s.size:=hlt
  have hkl:k<s.size:=by omega
  obtain ⟨x,hx,hxm⟩:=at_lt (l:=s.data.toList) (k:=k) (by omega)
  obtain ⟨z,hz⟩: ∃z:Int,(x.toNat:Int)=z:=⟨_,rfl⟩
  have hsn:okc x=true->(s.data.toList.take (k+1)).all okc=true:=fun h=>by rw [List.take_add_one,hx,List.all_append,hall];simp [h]
  have bad:okc x=false-> ∀ {n:Nat} {H:List Bk} {F:List Fact} (β:Va) (w':World),Sat (z_fg w (Un [])) β n H F w'->Fin w [] (fun u Fs=>u= .bool (plainF s.data.toList)/\Fs=[]) (.bool false) w':=by
   intro h n H F β w' hs
   refine (hs.keepB (List.nil_sublist _)).fin [] ⟨?_,rfl⟩
   have:s.data.toList.all okc=false:=by
    rw [List.all_eq_false]
    exact ⟨x,hxm,by rw [h];decide⟩
   unfold plainF
   rw [this]
   rfl
  refine ⟨⟨b,0,none⟩,k,rfl,rfl,hkl,.int .u8 z,fun β w' hs=>by rw [<-hz];exact Rd.cell1 (u:=byte x) (hs.get 0 rfl) (by rw [List.getElem?_map,hx];rfl),?_⟩
  conv=>whnf
  generalize h1:decide ((97:Int)<=z)=b1
  cases b1 with
  | true=>
   conv=>whnf
   generalize h2:decide (z<=(122:Int))=b2
   cases b2 with
   | true=>
    refine ⟨((k+1:Nat):Int),by rw [wrap_i64 (by omega) (by omega)];rfl,?_⟩
    exact ⟨k+1,⟨hkl,hsn (by simp only [decide_eq_true_eq,decide_eq_false_iff_not] at *;simp only [okc,decide_eq_true_eq];omega)⟩,by omega,Ent.same ⟨rfl,rfl,rfl,rfl,trivial⟩ rfl⟩
   | false=>
    conv=>whnf
    generalize h3:decide ((48:Int)<=z)=b3
    cases b3 with
    | true=>
     conv=>whnf
     generalize h4:decide (z<=(57:Int))=b4
     cases b4 with
     | true=>
      refine ⟨((k+1:Nat):Int),by rw [wrap_i64 (by omega) (by omega)];rfl,?_⟩
      exact ⟨k+1,⟨hkl,hsn (by simp only [decide_eq_true_eq,decide_eq_false_iff_not] at *;simp only [okc,decide_eq_true_eq];omega)⟩,by omega,Ent.same ⟨rfl,rfl,rfl,rfl,trivial⟩ rfl⟩
     | false=>
      conv=>whnf
      generalize h5:decide (z=(45:Int))=b5
      cases b5 with
      | true=>
       refine ⟨((k+1:Nat):Int),by rw [wrap_i64 (by omega) (by omega)];rfl,?_⟩
       exact ⟨k+1,⟨hkl,hsn (by simp only [decide_eq_true_eq,decide_eq_false_iff_not] at *;simp only [okc,decide_eq_true_eq];omega)⟩,by omega,Ent.same ⟨rfl,rfl,rfl,rfl,trivial⟩ rfl⟩
      | false=>
       conv=>whnf
       generalize h6:decide (z=(95:Int))=b6
       cases b6 with
       | true=>
        refine ⟨((k+1:Nat):Int),by rw [wrap_i64 (by omega) (by omega)];rfl,?_⟩
        exact ⟨k+1,⟨hkl,hsn (by simp only [decide_eq_true_eq,decide_eq_false_iff_not] at *;simp only [okc,decide_eq_true_eq];omega)⟩,by omega,Ent.same ⟨rfl,rfl,rfl,rfl,trivial⟩ rfl⟩
       | false=>
        exact bad (by simp only [decide_eq_true_eq,decide_eq_false_iff_not] at *;simp only [okc,decide_eq_false_iff_not];omega)
    | false=>
     conv=>whnf
     generalize h5:decide (z=(45:Int))=b5
     cases b5 with
     | true=>
      refine ⟨((k+1:Nat):Int),by rw [wrap_i64 (by omega) (by omega)];rfl,?_⟩
      exact ⟨k+1,⟨hkl,hsn (by simp only [decide_eq_true_eq,decide_eq_false_iff_not] at *;simp only [okc,decide_eq_true_eq];omega)⟩,by omega,Ent.same ⟨rfl,rfl,rfl,rfl,trivial⟩ rfl⟩
     | false=>
      conv=>whnf
      generalize h6:decide (z=(95:Int))=b6
      cases b6 with
      | true=>
       refine ⟨((k+1:Nat):Int),by rw [wrap_i64 (by omega) (by omega)];rfl,?_⟩
       exact ⟨k+1,⟨hkl,hsn (by simp only [decide_eq_true_eq,decide_eq_false_iff_not] at *;simp only [okc,decide_eq_true_eq];omega)⟩,by omega,Ent.same ⟨rfl,rfl,rfl,rfl,trivial⟩ rfl⟩
      | false=>
       exact bad (by simp only [decide_eq_true_eq,decide_eq_false_iff_not] at *;simp only [okc,decide_eq_false_iff_not];omega)
  | false=>
   conv=>whnf
   generalize h3:decide ((48:Int)<=z)=b3
   cases b3 with
   | true=>
    conv=>whnf
    generalize h4:decide (z<=(57:Int))=b4
    cases b4 with
    | true=>
     refine ⟨((k+1:Nat):Int),by rw [wrap_i64 (by omega) (by omega)];rfl,?_⟩
     exact ⟨k+1,⟨hkl,hsn (by simp only [decide_eq_true_eq,decide_eq_false_iff_not] at *;simp only [okc,decide_eq_true_eq];omega)⟩,by omega,Ent.same ⟨rfl,rfl,rfl,rfl,trivial⟩ rfl⟩
    | false=>
     conv=>whnf
     generalize h5:decide (z=(45:Int))=b5
     cases b5 with
     | true=>
      refine ⟨((k+1:Nat):Int),by rw [wrap_i64 (by omega) (by omega)];rfl,?_⟩
      exact ⟨k+1,⟨hkl,hsn (by simp only [decide_eq_true_eq,decide_eq_false_iff_not] at *;simp only [okc,decide_eq_true_eq];omega)⟩,by omega,Ent.same ⟨rfl,rfl,rfl,rfl,trivial⟩ rfl⟩
     | false=>
      conv=>whnf
      generalize h6:decide (z=(95:Int))=b6
      cases b6 with
      | true=>
       refine ⟨((k+1:Nat):Int),by rw [wrap_i64 (by omega) (by omega)];rfl,?_⟩
       exact ⟨k+1,⟨hkl,hsn (by simp only [decide_eq_true_eq,decide_eq_false_iff_not] at *;simp only [okc,decide_eq_true_eq];omega)⟩,by omega,Ent.same ⟨rfl,rfl,rfl,rfl,trivial⟩ rfl⟩
      | false=>
       exact bad (by simp only [decide_eq_true_eq,decide_eq_false_iff_not] at *;simp only [okc,decide_eq_false_iff_not];omega)
   | false=>
    conv=>whnf
    generalize h5:decide (z=(45:Int))=b5
    cases b5 with
    | true=>
     refine ⟨((k+1:Nat):Int),by rw [wrap_i64 (by omega) (by omega)];rfl,?_⟩
     exact ⟨k+1,⟨hkl,hsn (by simp only [decide_eq_true_eq,decide_eq_false_iff_not] at *;simp only [okc,decide_eq_true_eq];omega)⟩,by omega,Ent.same ⟨rfl,rfl,rfl,rfl,trivial⟩ rfl⟩
    | false=>
     conv=>whnf
     generalize h6:decide (z=(95:Int))=b6
     cases b6 with
     | true=>
      refine ⟨((k+1:Nat):Int),by rw [wrap_i64 (by omega) (by omega)];rfl,?_⟩
      exact ⟨k+1,⟨hkl,hsn (by simp only [decide_eq_true_eq,decide_eq_false_iff_not] at *;simp only [okc,decide_eq_true_eq];omega)⟩,by omega,Ent.same ⟨rfl,rfl,rfl,rfl,trivial⟩ rfl⟩
     | false=>
      exact bad (by simp only [decide_eq_true_eq,decide_eq_false_iff_not] at *;simp only [okc,decide_eq_false_iff_not];omega)
 ·have hge0: ¬(k:Int)<s.size:=hge
  obtain rfl:k=s.size:=by omega
  rw [<-hlen,List.take_length] at hall
  have hpl:plainF s.data.toList=(decide (s.data.toList≠[])&&decide (s.data.toList.length<=32)):=by unfold plainF;rw [hall,Bool.true_and]
  refine BIf.not (BIf.dec (p:=s=mkS []) (fun he=>?_) (fun he=>?_))
  ·intro β w' hs
   refine (hs.keepB (List.nil_sublist _)).fin [] ⟨?_,rfl⟩
   rw [hpl,he]
   rfl
  ·have hne:s.data.toList≠[]:=fun q=>he (by
    have:s=mkS s.data.toList:=by cases s;rfl
    rw [this,q])
   intro β w' hs
   refine (hs.keepB (List.nil_sublist _)).fin [] ⟨?_,rfl⟩
   rw [hpl,decide_eq_true hne,Bool.true_and,hlen]
   show Value.bool (decide ((s.size:Int)<=32))=_
   congr 1
   exact decide_eq_decide.2 (by omega)
def nameA (s:ByteArray):ByteArray×Int:=(mkS (sizF s.data.toList 32).1,(sizF s.data.toList 32).2)
structure NamT (w:World):Prop where
 f:Forms 10 w
 s5:(spansF 8 blanksL).p w
 s6:(spansF 9 nothingL).p w
 s4:(spansF 4 barredL).p w
theorem z_ux (w:World) (s:ByteArray) (hl:s.size<=100000) (hn:NamT w):Pu Tryz.prog z_hW #[.string s] w (.tuple #[.string (nameA s).1,.int .i64 (nameA s).2]):=
 z_vN w s hl hn.f hn.s5 hn.s6 hn.s4
def namF:Fact:=readF [formF,spansF 8 blanksL,spansF 9 nothingL,spansF 4 barredL]
theorem z_vK {w:World} (h:namF.p w):NamT w:=⟨h formF (by simp),h (spansF 8 blanksL) (by simp),h (spansF 9 nothingL) (by simp),h (spansF 4 barredL) (by simp)⟩
def saltedN (n:Nat) (it:Int):Bool:=decide (1<=n)&&(decide (n<=32)&&(decide (1<=it)&&decide (it<=64)))
theorem z_rX (w:World) (A:Option Addr) (n c:Nat) (it:Int):Pu Tryz.prog z_iJ #[.slice A n c,.int .i64 it] w (.bool (saltedN n it)):=by
 have g:=z_kq w (Un [])
 refine z_ad (cx:=z_hE w (Un [])) g z_nd rfl rfl (β:=Va.z) [.c (.v (.slice A n c)),.c (.v (.int .i64 it))] 0 [] [] rfl rfl (Sat.start rfl) ?_
 conv=>whnf
 generalize h1:decide ((1:Int)<=(n:Int))=b1
 have e1:decide (1<=n)=b1:=by rw [<-h1];exact decide_eq_decide.2 (by omega)
 cases b1 with
 | false=>
  intro β w' hs
  refine hs.fin [] ⟨?_,rfl⟩
  unfold saltedN
  rw [e1]
  rfl
 | true=>
  conv=>whnf
  generalize h2:decide ((n:Int)<=(32:Int))=b2
  have e2:decide (n<=32)=b2:=by rw [<-h2];exact decide_eq_decide.2 (by omega)
  cases b2 with
  | false=>
   intro β w' hs
   refine hs.fin [] ⟨?_,rfl⟩
   unfold saltedN
   rw [e1,e2]
   rfl
  | true=>
   conv=>whnf
   generalize h3:decide ((1:Int)<=it)=b3
   cases b3 with
   | false=>
    intro β w' hs
    refine hs.fin [] ⟨?_,rfl⟩
    unfold saltedN
    rw [e1,e2,h3]
    rfl
   | true=>
    intro β w' hs
    refine hs.fin [] ⟨?_,rfl⟩
    unfold saltedN
    rw [e1,e2,h3]
    rfl
end Go.Proofs.YtloeaiafphkjnaaGreatDoor.Sx
namespace Go.Proofs.YtloeaiafphkjnaaGreatDoor.Sx
open Go
end Go.Proofs.YtloeaiafphkjnaaGreatDoor.Sx
namespace Go.Proofs
open Go.Shelf
def Tryz.keys126_ren:Go.Shelf.Ren:=⟨fun | 7=>126 | 10=>174 | n=>n,fun | 23=>113 | 26=>9 | 3=>144 | 28=>71 | 0=>0 | 27=>70 | 33=>135 | 4=>4 | n=>n,fun | n=>n⟩
theorem Tryz.keys126:Go.Proofs.SlLaysZ.n7 Tryz.prog Tryz.keys126_ren:= {
 mixed:=by kernel_rfl
 f7:=⟨Tryz.f126.name,by decide,Tryz.func126.trans (congrArg some (by kernel_rfl))⟩
 f10:=⟨Tryz.f174.name,by decide,Tryz.func174.trans (congrArg some (by kernel_rfl))⟩
 t0:=Tryz.underlying0
 a0:=Tryz.isAgg0
 z0:=Tryz.sizeOf0
 v0:=Tryz.zeroValue0
 t4:=Tryz.underlying4
 a4:=Tryz.isAgg4
 z4:=Tryz.sizeOf4
 v4:=Tryz.zeroValue4
 t23:=Tryz.underlying113
 a23:=Tryz.isAgg113
 z23:=Tryz.sizeOf113
 v23:=Tryz.zeroValue113
 t26:=Tryz.underlying9
 a26:=Tryz.isAgg9
 z26:=Tryz.sizeOf9
 v26:=Tryz.zeroValue9
 t27:=Tryz.underlying70
 a27:=Tryz.isAgg70
 z27:=Tryz.sizeOf70
 v27:=Tryz.zeroValue70
 t28:=Tryz.underlying71
 a28:=Tryz.isAgg71
 z28:=Tryz.sizeOf71
 v28:=Tryz.zeroValue71
 t33:=Tryz.underlying135
 a33:=Tryz.isAgg135
 z33:=Tryz.sizeOf135
 v33:=Tryz.zeroValue135}
def Tryz.sorted125_ren:Go.Shelf.Ren:=⟨fun | 6=>125 | 8=>173 | 9=>54 | 11=>212 | 13=>107 | 12=>106 | 23=>156 | 24=>157 | 14=>148 | 15=>149 | 16=>150 | 17=>151 | 18=>152 | 19=>153 | 20=>136 | 21=>154 | 22=>155 | 25=>191 | 26=>192 | 27=>193 | 28=>194 | 29=>195 | 30=>182 | 31=>226 | n=>n,fun | 26=>9 | 28=>71 | 24=>32 | 0=>0 | 3=>3 | 37=>127 | 48=>116 | 50=>50 | 4=>4 | 40=>204 | 39=>203 | 45=>150 | 5=>5 | 9=>9 | 51=>231 | 55=>234 | 57=>265 | 58=>263 | 33=>135 | n=>n,fun | n=>n⟩
theorem Tryz.sorted125:Go.Proofs.SlLaysZ.n6 Tryz.prog Tryz.sorted125_ren:= {
 mixed:=by kernel_rfl
 f6:=⟨Tryz.f125.name,by decide,Tryz.func125.trans (congrArg some (by kernel_rfl))⟩
 f8:=⟨Tryz.f173.name,by decide,Tryz.func173.trans (congrArg some (by kernel_rfl))⟩
 f11:=⟨Tryz.f212.name,by decide,Tryz.func212.trans (congrArg some (by kernel_rfl))⟩
 t0:=Tryz.underlying0
 a0:=Tryz.isAgg0
 z0:=Tryz.sizeOf0
 v0:=Tryz.zeroValue0
 t24:=Tryz.underlying32
 a24:=Tryz.isAgg32
 z24:=Tryz.sizeOf32
 v24:=Tryz.zeroValue32
 t26:=Tryz.underlying9
 a26:=Tryz.isAgg9
 z26:=Tryz.sizeOf9
 v26:=Tryz.zeroValue9
 t28:=Tryz.underlying71
 a28:=Tryz.isAgg71
 z28:=Tryz.sizeOf71
 v28:=Tryz.zeroValue71
 i26:=by kernel_rfl}
def Tryz.sort54_ren:Go.Shelf.Ren:=⟨fun | 6=>54 | 8=>107 | 9=>106 | 19=>156 | 20=>157 | 21=>148 | 22=>149 | 23=>150 | 24=>151 | 25=>152 | 26=>153 | 27=>136 | 28=>154 | 29=>155 | 36=>191 | 31=>192 | 32=>193 | 37=>194 | 38=>195 | 39=>182 | 41=>226 | n=>n,fun | 27=>32 | 29=>9 | 3=>3 | 32=>127 | 26=>32 | 0=>0 | 44=>116 | 46=>50 | 4=>4 | 36=>204 | 35=>203 | 41=>150 | 5=>5 | 9=>9 | 53=>231 | 57=>234 | 63=>265 | 64=>263 | n=>n,fun | n=>n⟩
theorem Tryz.sort54:Go.Proofs.SlLaysM.n6 Tryz.prog Tryz.sort54_ren:= {
 mixed:=by kernel_rfl
 f6:=⟨Tryz.f54.name,by decide,Tryz.func54.trans (congrArg some (by kernel_rfl))⟩
 f8:=Tryz.func107.trans (congrArg some (by kernel_rfl))
 f9:=⟨Tryz.f106.name,by decide,Tryz.func106.trans (congrArg some (by kernel_rfl))⟩
 f19:=Tryz.func156.trans (congrArg some (by kernel_rfl))
 f20:=Tryz.func157.trans (congrArg some (by kernel_rfl))
 f21:=⟨Tryz.f148.name,by decide,Tryz.func148.trans (congrArg some (by kernel_rfl))⟩
 f22:=⟨Tryz.f149.name,by decide,Tryz.func149.trans (congrArg some (by kernel_rfl))⟩
 f23:=⟨Tryz.f150.name,by decide,Tryz.func150.trans (congrArg some (by kernel_rfl))⟩
 f24:=⟨Tryz.f151.name,by decide,Tryz.func151.trans (congrArg some (by kernel_rfl))⟩
 f25:=⟨Tryz.f152.name,by decide,Tryz.func152.trans (congrArg some (by kernel_rfl))⟩
 f26:=⟨Tryz.f153.name,by decide,Tryz.func153.trans (congrArg some (by kernel_rfl))⟩
 f27:=⟨Tryz.f136.name,by decide,Tryz.func136.trans (congrArg some (by kernel_rfl))⟩
 f28:=⟨Tryz.f154.name,by decide,Tryz.func154.trans (congrArg some (by kernel_rfl))⟩
 f29:=⟨Tryz.f155.name,by decide,Tryz.func155.trans (congrArg some (by kernel_rfl))⟩
 f31:=Tryz.func192.trans (congrArg some (by kernel_rfl))
 f32:=Tryz.func193.trans (congrArg some (by kernel_rfl))
 f36:=⟨Tryz.f191.name,by decide,Tryz.func191.trans (congrArg some (by kernel_rfl))⟩
 f37:=⟨Tryz.f194.name,by decide,Tryz.func194.trans (congrArg some (by kernel_rfl))⟩
 f38:=⟨Tryz.f195.name,by decide,Tryz.func195.trans (congrArg some (by kernel_rfl))⟩
 f39:=⟨Tryz.f182.name,by decide,Tryz.func182.trans (congrArg some (by kernel_rfl))⟩
 f41:=⟨Tryz.f226.name,by decide,Tryz.func226.trans (congrArg some (by kernel_rfl))⟩
 t0:=Tryz.underlying0
 a0:=Tryz.isAgg0
 z0:=Tryz.sizeOf0
 v0:=Tryz.zeroValue0
 t3:=Tryz.underlying3
 a3:=Tryz.isAgg3
 z3:=Tryz.sizeOf3
 v3:=Tryz.zeroValue3
 t4:=Tryz.underlying4
 a4:=Tryz.isAgg4
 z4:=Tryz.sizeOf4
 v4:=Tryz.zeroValue4
 t5:=Tryz.underlying5
 a5:=Tryz.isAgg5
 z5:=Tryz.sizeOf5
 v5:=Tryz.zeroValue5
 t9:=Tryz.underlying9
 a9:=Tryz.isAgg9
 z9:=Tryz.sizeOf9
 v9:=Tryz.zeroValue9
 t26:=Tryz.underlying32
 a26:=Tryz.isAgg32
 z26:=Tryz.sizeOf32
 v26:=Tryz.zeroValue32
 t27:=Tryz.underlying32
 a27:=Tryz.isAgg32
 z27:=Tryz.sizeOf32
 v27:=Tryz.zeroValue32
 t29:=Tryz.underlying9
 a29:=Tryz.isAgg9
 z29:=Tryz.sizeOf9
 v29:=Tryz.zeroValue9
 t32:=Tryz.underlying127
 a32:=Tryz.isAgg127
 z32:=Tryz.sizeOf127
 v32:=Tryz.zeroValue127
 t35:=Tryz.underlying203
 a35:=Tryz.isAgg203
 z35:=Tryz.sizeOf203
 v35:=Tryz.zeroValue203
 t36:=Tryz.underlying204
 a36:=Tryz.isAgg204
 z36:=Tryz.sizeOf204
 v36:=Tryz.zeroValue204
 t41:=Tryz.underlying150
 a41:=Tryz.isAgg150
 z41:=Tryz.sizeOf150
 v41:=Tryz.zeroValue150
 t44:=Tryz.underlying116
 a44:=Tryz.isAgg116
 z44:=Tryz.sizeOf116
 v44:=Tryz.zeroValue116
 t46:=Tryz.underlying50
 a46:=Tryz.isAgg50
 z46:=Tryz.sizeOf50
 v46:=Tryz.zeroValue50
 t53:=Tryz.underlying231
 a53:=Tryz.isAgg231
 z53:=Tryz.sizeOf231
 v53:=Tryz.zeroValue231
 t57:=Tryz.underlying234
 a57:=Tryz.isAgg234
 z57:=Tryz.sizeOf234
 v57:=Tryz.zeroValue234
 t63:=Tryz.underlying265
 a63:=Tryz.isAgg265
 z63:=Tryz.sizeOf265
 v63:=Tryz.zeroValue265
 t64:=Tryz.underlying263
 a64:=Tryz.isAgg263
 z64:=Tryz.sizeOf263
 v64:=Tryz.zeroValue263}
def Tryz.keys128_ren:Go.Shelf.Ren:=⟨fun | 7=>128 | 10=>175 | n=>n,fun | 23=>144 | 26=>9 | 3=>146 | 28=>71 | 0=>0 | 27=>70 | 33=>135 | 4=>4 | n=>n,fun | n=>n⟩
theorem Tryz.keys128:Go.Proofs.SlLaysZ.n7 Tryz.prog Tryz.keys128_ren:= {
 mixed:=by kernel_rfl
 f7:=⟨Tryz.f128.name,by decide,Tryz.func128.trans (congrArg some (by kernel_rfl))⟩
 f10:=⟨Tryz.f175.name,by decide,Tryz.func175.trans (congrArg some (by kernel_rfl))⟩
 t0:=Tryz.underlying0
 a0:=Tryz.isAgg0
 z0:=Tryz.sizeOf0
 v0:=Tryz.zeroValue0
 t4:=Tryz.underlying4
 a4:=Tryz.isAgg4
 z4:=Tryz.sizeOf4
 v4:=Tryz.zeroValue4
 t23:=Tryz.underlying144
 a23:=Tryz.isAgg144
 z23:=Tryz.sizeOf144
 v23:=Tryz.zeroValue144
 t26:=Tryz.underlying9
 a26:=Tryz.isAgg9
 z26:=Tryz.sizeOf9
 v26:=Tryz.zeroValue9
 t27:=Tryz.underlying70
 a27:=Tryz.isAgg70
 z27:=Tryz.sizeOf70
 v27:=Tryz.zeroValue70
 t28:=Tryz.underlying71
 a28:=Tryz.isAgg71
 z28:=Tryz.sizeOf71
 v28:=Tryz.zeroValue71
 t33:=Tryz.underlying135
 a33:=Tryz.isAgg135
 z33:=Tryz.sizeOf135
 v33:=Tryz.zeroValue135}
end Go.Proofs
namespace Go.Proofs.YtloeaiafphkjnaaGreatDoor.Sx
open Go
attribute [local irreducible] Calls
def strs (l:List ByteArray):List Value:=l.map Value.string
theorem z_ep (l:List ByteArray): ∀u∈strs l,u.oneCell'=true:=by
 intro u hu
 obtain ⟨x,_,rfl⟩:=List.mem_map.1 hu
 rfl
theorem z_s5 (l:List ByteArray):(strs l).length=l.length:=by simp [strs]
abbrev srowF (A:Option Addr) (l:List ByteArray) (c:Nat):Fact:=rowF z_ah 1 (.slice A l.length c) l.length (strs l)
end Go.Proofs.YtloeaiafphkjnaaGreatDoor.Sx
namespace Go.Proofs.YtloeaiafphkjnaaGreatDoor.Sx
open Go
attribute [local irreducible] Calls
structure Ro where
 A:Option Addr
 c:Nat
 l:List UInt8
 hc:l.length<=c
def Ro.v (r:Ro):Value:= .slice r.A r.l.length r.c
def Ro.f (r:Ro):Fact:=rdoF 1 r.A r.l.length (r.l.map byte)
theorem browRo {e:Nat} {A:Option Addr} {l:List UInt8} {c:Nat} {w:World} (h:(browF e A l c).p w):(rdoF 1 A l.length (l.map byte)).p w:=z_am h
theorem browRoD {e:Nat} {A:Option Addr} {l:List UInt8} {c:Nat} {w:World} (h:(browF e A l c).p w): ∀k,(rdoF 1 A l.length (l.map byte)).D k->(browF e A l c).D k:=by
 rintro k ⟨hk,ad,q,rfl⟩
 have hl:0<l.length:=by
  have:0<l.length*1:=hk
  omega
 have q':A=some ad:=q
 rcases h.2 with ⟨he,h0⟩ | ⟨g,cap,cur,he,_⟩
 ·omega
 ·have hA:A=some ⟨g,0,none⟩:=by injection he
  rw [q'] at hA
  obtain rfl:=Option.some.inj hA
  show Value.ownBlock (.slice A l.length c)=_
  rw [q']
  rfl
inductive Recs (w':World):List Fact->List Fact->Prop
 | nil:Recs w' [] []
 | cons {f g:Fact} {Fs Gs:List Fact} (h:g.own=true/\(f.p w'->g.p w')/\ ∀k,g.D k->f.D k) (r:Recs w' Fs Gs):Recs w' (f::Fs) (g::Gs)
theorem Fin.recast {w:World} {Gs:List Fact} {R R':Value->List Fact->Prop} {v:Value} {w':World} (h:Fin w Gs R v w')
  (hr: ∀Fs,R v Fs->(∀f∈Fs,f.p w')-> ∃Fs',R' v Fs'/\Recs w' Fs Fs'):Fin w Gs R' v w':=by
 obtain ⟨Fs,h1,h2,h3,h4,h5⟩:=h
 obtain ⟨Fs',q1,q2⟩:=hr Fs h1 h3.fact
 have key: ∀ {Fs Fs':List Fact},Recs w' Fs Fs'->Mem w' Fs->Owns Fs->Mem w' Fs'/\Owns Fs'/\ ∀g∈Fs',∃f∈Fs,∀k,g.D k->f.D k:=by
  intro Fs Fs' hf
  induction hf with
  | nil=>intro _ _;exact ⟨⟨fun _ q=>(by cases q),fun _ q=>(by cases q),List.Pairwise.nil⟩,trivial,fun _ q=>(by cases q)⟩
  | @cons f g Fs Fs' hfg hrest ih=>
   intro hm ho
   obtain ⟨i1,i2,i3⟩:=ih ⟨fun x hx=>hm.fact x (List.mem_cons_of_mem _ hx),fun x hx=>hm.flt x (List.mem_cons_of_mem _ hx),(List.pairwise_cons.1 hm.sepf).2⟩ ho.2
   refine ⟨⟨fun x hx=>?_,fun x hx k hk=>?_,List.pairwise_cons.2 ⟨fun x hx _ k hk hk'=>?_,i1.sepf⟩⟩,⟨hfg.1,i2⟩,fun x hx=>?_⟩
   ·rcases List.mem_cons.1 hx with rfl | hx
    ·exact hfg.2.1 (hm.fact f List.mem_cons_self)
    ·exact i1.fact x hx
   ·rcases List.mem_cons.1 hx with rfl | hx
    ·exact hm.flt f List.mem_cons_self k (hfg.2.2 k hk)
    ·exact i1.flt x hx k hk
   ·obtain ⟨y,hy,hyd⟩:=i3 x hx
    exact (List.pairwise_cons.1 hm.sepf).1 y hy (.inl ho.1) k (hfg.2.2 k hk) (hyd k hk')
   ·rcases List.mem_cons.1 hx with rfl | hx
    ·exact ⟨f,List.mem_cons_self,hfg.2.2⟩
    ·obtain ⟨y,hy,hyd⟩:=i3 x hx
     exact ⟨y,List.mem_cons_of_mem _ hy,hyd⟩
 obtain ⟨k1,k2,k3⟩:=key q2 h3 h4
 exact ⟨Fs',q1,h2,k1,k2,fun g hg k hk=>by obtain ⟨f,hf,hfd⟩:=k3 g hg;exact h5 f hf k (hfd k hk)⟩
theorem z_i8 (w:World) (A:Option Addr) (l:List UInt8) (n c:Nat) (hn:n=l.length) (hr:Bs w A l) (hl:l.length<=1000000):
  Con Tryz.prog z_fi #[.slice A n c] w [] fun v Fs=> ∃r:Ro,r.l=l/\v=r.v/\Fs=[r.f]:=by
 subst hn
 refine Calls.mono (z_oy w A l c hr (by omega)) ?_
 rintro e w' ⟨v,rfl,hf⟩
 refine ⟨v,rfl,hf.recast ?_⟩
 rintro Fs ⟨A',c',rfl,hc,_,rfl⟩ hp
 have hp0:=hp _ List.mem_cons_self
 exact ⟨[Ro.f ⟨A',c',l,hc⟩],⟨⟨A',c',l,hc⟩,rfl,rfl,rfl⟩,.cons ⟨rfl,fun h=>browRo h,browRoD hp0⟩ .nil⟩
theorem Un.app {A B:List Fact} {k:Nat}:Un (A++B) k↔Un A k\/Un B k:=by
 unfold Un
 constructor
 ·rintro ⟨g,hg,hk⟩
  rcases List.mem_append.1 hg with h | h
  ·exact .inl ⟨g,h,hk⟩
  ·exact .inr ⟨g,h,hk⟩
 ·rintro (⟨g,hg,hk⟩ | ⟨g,hg,hk⟩)
  ·exact ⟨g,List.mem_append_left _ hg,hk⟩
  ·exact ⟨g,List.mem_append_right _ hg,hk⟩
theorem Un.cons {x:Fact} {B:List Fact} {k:Nat}:Un (x::B) k↔x.D k\/Un B k:=by
 unfold Un
 constructor
 ·rintro ⟨g,hg,hk⟩
  rcases List.mem_cons.1 hg with rfl | h
  ·exact .inl hk
  ·exact .inr ⟨g,h,hk⟩
 ·rintro (hk | ⟨g,hg,hk⟩)
  ·exact ⟨x,List.mem_cons_self,hk⟩
  ·exact ⟨g,List.mem_cons_of_mem _ hg,hk⟩
theorem sep_mid {A B:List Fact} {x:Fact} {w:World}:(sepF (A++x::B)).p w↔x.p w/\(sepF (A++B)).p w/\ ∀k,x.D k-> ¬Un (A++B) k:=by
 show ((∀f∈A++x::B,f.p w)/\(A++x::B).Pairwise _)↔x.p w/\((∀f∈A++B,f.p w)/\(A++B).Pairwise _)/\_
 rw [List.pairwise_append,List.pairwise_cons,List.pairwise_append]
 constructor
 ·rintro ⟨h1,h2,⟨h3,h4⟩,h5⟩
  refine ⟨h1 x (by simp),⟨fun f hf=>h1 f ?_,h2,h4,fun a ha b hb=>h5 a ha b (List.mem_cons_of_mem _ hb)⟩,fun k hk q=>?_⟩
  ·rcases List.mem_append.1 hf with h | h
   ·exact List.mem_append_left _ h
   ·exact List.mem_append_right _ (List.mem_cons_of_mem _ h)
  ·rcases Un.app.1 q with ⟨g,hg,hk'⟩ | ⟨g,hg,hk'⟩
   ·exact h5 g hg x List.mem_cons_self k hk' hk
   ·exact h3 g hg k hk hk'
 ·rintro ⟨h1,⟨h2,h3,h4,h5⟩,h6⟩
  refine ⟨fun f hf=>?_,h3,⟨fun g hg k hk hk'=>h6 k hk (Un.app.2 (.inr ⟨g,hg,hk'⟩)),h4⟩,fun a ha b hb k hk hk'=>?_⟩
  ·rcases List.mem_append.1 hf with h | h
   ·exact h2 f (List.mem_append_left _ h)
   ·rcases List.mem_cons.1 h with rfl | h
    ·exact h1
    ·exact h2 f (List.mem_append_right _ h)
  ·rcases List.mem_cons.1 hb with rfl | hb
   ·exact h6 k hk' (Un.app.2 (.inl ⟨a,ha,hk⟩))
   ·exact h5 a ha b hb k hk hk'
section
variable {cx:Cx} {β:Va} {n:Nat} {H:List Bk} {F:List Fact} {w:World}
theorem Sat.focus (h:Sat cx β n H F w) (j:Nat) {A B:List Fact} {x:Fact} (hj:nth F j=some (sepF (A++x::B))) (hx:x.own=true):Sat cx β n H (x::sepF (A++B)::dropIx [j] 0 F) w:=by
 have hp:=sep_mid.1 (h.get j hj)
 have hl:=h.getLt j hj
 have htk:takeIx F [j]=[sepF (A++x::B)]:=by simp only [takeIx,hj]
 have hin: ∀k,x.D k\/Un (A++B) k->Un (A++x::B) k:=by
  intro k hk
  rcases hk with hk | hk
  ·exact Un.app.2 (.inr (Un.cons.2 (.inl hk)))
  ·rcases Un.app.1 hk with hk | hk
   ·exact Un.app.2 (.inl hk)
   ·exact Un.app.2 (.inr (Un.cons.2 (.inr hk)))
 refine h.swap [j] (by rw [htk];exact ⟨rfl,trivial⟩) (Fs:=[x,sepF (A++B)]) (Chg.refl _ _) ⟨fun f hf=>?_,fun f hf k hk=>?_,?_⟩ (fun f hf k hk=>?_)
 ·simp only [List.mem_cons,List.not_mem_nil,or_false] at hf
  rcases hf with rfl | rfl
  ·exact hp.1
  ·exact hp.2.1
 ·simp only [List.mem_cons,List.not_mem_nil,or_false] at hf
  rcases hf with rfl | rfl
  ·exact hl k (hin k (.inl hk))
  ·exact hl k (hin k (.inr hk))
 ·refine List.pairwise_cons.2 ⟨fun f hf _ k hk=>?_,List.pairwise_singleton _ _⟩
  obtain rfl:=List.mem_singleton.1 hf
  exact hp.2.2 k hk
 ·rw [htk]
  simp only [List.mem_cons,List.not_mem_nil,or_false] at hf
  refine .inl ⟨_,List.mem_singleton.2 rfl,?_⟩
  rcases hf with rfl | rfl
  ·exact hin k (.inl hk)
  ·exact hin k (.inr hk)
theorem Sat.blur (h:Sat cx β n H F w) (i j:Nat) {A B:List Fact} {x:Fact} (hi:nth F i=some x) (hj:nth F j=some (sepF (A++B))) (hx:x.own=true) (hne:i≠j):Sat cx β n H (sepF (A++x::B)::dropIx [i,j] 0 F) w:=by
 have h1:=h.get i hi
 have h2:=h.get j hj
 have ap:=h.apart (i:=i) (j:=j) (by rw [<-z_ax];exact hi) (by rw [<-z_ax];exact hj) hne (.inl hx)
 have htk:takeIx F [i,j]=[x,sepF (A++B)]:=by simp only [takeIx,hi,hj]
 have hin: ∀k,Un (A++x::B) k->x.D k\/Un (A++B) k:=by
  intro k hk
  rcases Un.app.1 hk with hk | hk
  ·exact .inr (Un.app.2 (.inl hk))
  ·rcases Un.cons.1 hk with hk | hk
   ·exact .inl hk
   ·exact .inr (Un.app.2 (.inr hk))
 refine h.swap [i,j] (by rw [htk];exact ⟨hx,rfl,trivial⟩) (Fs:=[sepF (A++x::B)]) (Chg.refl _ _) ⟨fun f hf=>?_,fun f hf k hk=>?_,List.pairwise_singleton _ _⟩ (fun f hf k hk=>?_)
 ·obtain rfl:=List.mem_singleton.1 hf
  exact sep_mid.2 ⟨h1,h2,ap⟩
 ·obtain rfl:=List.mem_singleton.1 hf
  rcases hin k hk with q | q
  ·exact h.getLt i hi k q
  ·exact h.getLt j hj k q
 ·obtain rfl:=List.mem_singleton.1 hf
  rw [htk]
  rcases hin k hk with q | q
  ·exact .inl ⟨x,List.mem_cons_self,q⟩
  ·exact .inl ⟨_,List.mem_cons_of_mem _ List.mem_cons_self,q⟩
end
end Go.Proofs.YtloeaiafphkjnaaGreatDoor.Sx
namespace Go.Proofs.YtloeaiafphkjnaaGreatDoor.Sx
open Go
structure ASec where
 salt:List UInt8
 iter:Int
 stored:List UInt8
 server:List UInt8
 ha1:List UInt8
structure ACrd where
 tenant:ByteArray
 user:ByteArray
 sec:ASec
 gen:Nat
 roles:List ByteArray
 revoked:Bool
abbrev ATs:=List (ByteArray×List ACrd)
structure ASto where
 ts:ATs
 last:Nat
 reads:Int
def aten:ATs->ByteArray->Option (List ACrd)
 | [],_=>none
 | (k,us)::r,t=>if k=t then some us else aten r t
def ausr:List ACrd->ByteArray->Option ACrd
 | [],_=>none
 | c::r,n=>if c.user=n then some c else ausr r n
def atenU:ATs->ByteArray->(List ACrd->List ACrd)->ATs
 | [],_,_=>[]
 | (k,us)::r,t,f=>if k=t then (k,f us)::r else (k,us)::atenU r t f
def ausrU:List ACrd->ByteArray->(ACrd->ACrd)->List ACrd
 | [],_,_=>[]
 | c::r,n,f=>if c.user=n then f c::r else c::ausrU r n f
def atenD:ATs->ByteArray->ATs
 | [],_=>[]
 | (k,us)::r,t=>if k=t then r else (k,us)::atenD r t
def ausrD:List ACrd->ByteArray->List ACrd
 | [],_=>[]
 | c::r,n=>if c.user=n then r else c::ausrD r n
def aget (X:ASto) (t n:ByteArray):Option ACrd:=(aten X.ts t).bind fun us=>ausr us n
def aone (X:ASto) (t u:ByteArray):Option ACrd:=if (nameA u).2=0 then aget X t (nameA u).1 else none
def saltedA (l:List UInt8) (iter:Int):Bool:=decide (1<=l.length)&&(decide (l.length<=32)&&(decide (1<=iter)&&decide (iter<=64)))
def rightA (x:ASec):Bool:=saltedA x.salt x.iter&&(decide (x.stored.length=32)&&(decide (x.server.length=32)&&decide (x.ha1.length=32)))
def greatN:Nat:=9007199254740992
structure Sec where
 salt:Ro
 iter:Int
 stored:Ro
 server:Ro
 ha1:Ro
def Sec.vs (x:Sec):List Value:=[x.salt.v,.int .i64 x.iter,x.stored.v,x.server.v,x.ha1.v]
def Sec.fs (x:Sec):List Fact:=[x.salt.f,x.stored.f,x.server.f,x.ha1.f]
def Sec.a (x:Sec):ASec:=⟨x.salt.l,x.iter,x.stored.l,x.server.l,x.ha1.l⟩
def strsF (A:Option Addr) (l:List ByteArray):Fact:=rdoF 1 A l.length (l.map Value.string)
structure Crd where
 b:Nat
 tenant:ByteArray
 user:ByteArray
 sec:Sec
 gen:Nat
 rA:Option Addr
 rc:Nat
 roles:List ByteArray
 revoked:Bool
def Crd.vs (c:Crd):List Value:= .string c.tenant:: .string c.user::(c.sec.vs++[.int .u64 c.gen,.slice c.rA c.roles.length c.rc,.bool c.revoked])
def Crd.parts (c:Crd):List Fact:=strsF c.rA c.roles::c.sec.fs
def Crd.fs (c:Crd):List Fact:=bkF c.b z_ao c.vs::c.parts
def Crd.a (c:Crd):ACrd:=⟨c.tenant,c.user,c.sec.a,c.gen,c.roles,c.revoked⟩
def crdF (c:Crd):Fact:=sepF c.fs
def ptr (b:Nat):Value:= .pointer (some ⟨b,0,none⟩)
structure Ten where
 b:Nat
 name:ByteArray
 us:List Crd
def Ten.m (T:Ten):ML:=T.us.map fun c=>(c.user,ptr c.b)
def tenF (T:Ten):Fact:=sepF [mapF T.b T.m,sepF (T.us.map crdF)]
def Ten.a (T:Ten):ByteArray×List ACrd:=(T.name,T.us.map Crd.a)
structure Sto where
 b:Nat
 m:Nat
 ts:List Ten
 last:Nat
 reads:Int
def Sto.vs (S:Sto):List Value:=[.map (some S.m),.int .u64 (S.last:Int),.int .u64 S.reads]
def Sto.ml (S:Sto):ML:=S.ts.map fun T=>(T.name,.map (some T.b))
def stoF (S:Sto):Fact:=sepF [bkF S.b z_ay S.vs,mapF S.m S.ml,sepF (S.ts.map tenF)]
def Sto.a (S:Sto):ASto:=⟨S.ts.map Ten.a,S.last,S.reads⟩
def tenO:List Ten->ByteArray->Option Ten
 | [],_=>none
 | T::r,t=>if T.name=t then some T else tenO r t
def crdO:List Crd->ByteArray->Option Crd
 | [],_=>none
 | c::r,n=>if c.user=n then some c else crdO r n
theorem z_g4 (t:ByteArray): ∀ts:List Ten,(∃A T B,ts=A++T::B/\tenO ts t=some T/\T.name=t/\mlook (ts.map fun T=>(T.name,Value.map (some T.b))) t=some (.map (some T.b))/\aten (ts.map Ten.a) t=some (T.us.map Crd.a)/\
   (∀T':Ten,∀f,T'.name=t->T'.us.map Crd.a=f (T.us.map Crd.a)->(A++T'::B).map Ten.a=atenU (ts.map Ten.a) t f)/\(A++B).map Ten.a=atenD (ts.map Ten.a) t/\(A++B).map (fun T:Ten=>(T.name,Value.map (some T.b)))=mdel (ts.map fun T=>(T.name,Value.map (some T.b))) t)\/
  (mlook (ts.map fun T=>(T.name,Value.map (some T.b))) t=none/\aten (ts.map Ten.a) t=none/\tenO ts t=none)
 | []=> .inr ⟨rfl,rfl,rfl⟩
 | T::r=>by
  by_cases h:T.name=t
  ·refine .inl ⟨[],T,r,rfl,by simp [tenO,h],h,?_,?_,?_,?_,?_⟩
   ·simp [mlook,h]
   ·simp [aten,Ten.a,h]
   ·intro T' f h1 h2
    simp [atenU,Ten.a,h,h1,h2]
   ·simp [atenD,Ten.a,h]
   ·simp [mdel,h]
  ·rcases z_g4 t r with ⟨A,T0,B,rfl,h0,h1,h2,h3,h4,h5,h6⟩ | ⟨h1,h2,h3⟩
   ·refine .inl ⟨T::A,T0,B,rfl,by simpa [tenO,h] using h0,h1,?_,?_,?_,?_,?_⟩
    ·simpa [mlook,h] using h2
    ·simpa [aten,Ten.a,h] using h3
    ·intro T' f q1 q2
     have:=h4 T' f q1 q2
     simp only [List.cons_append,List.map_cons,Ten.a,atenU,if_neg h] at this ⊢
     rw [this]
    ·simp only [List.cons_append,List.map_cons,Ten.a,atenD,if_neg h] at h5 ⊢
     rw [h5]
    ·simp only [List.cons_append,List.map_cons,mdel,if_neg h] at h6 ⊢
     rw [h6]
   ·refine .inr ⟨?_,?_,?_⟩
    ·simpa [mlook,h] using h1
    ·simpa [aten,Ten.a,h] using h2
    ·simpa [tenO,h] using h3
theorem z_mE (n:ByteArray): ∀us:List Crd,(∃A c B,us=A++c::B/\crdO us n=some c/\c.user=n/\mlook (us.map fun c=>(c.user,ptr c.b)) n=some (ptr c.b)/\ausr (us.map Crd.a) n=some c.a/\
   (∀c':Crd,∀f,c'.user=n->c'.a=f c.a->(A++c'::B).map Crd.a=ausrU (us.map Crd.a) n f)/\(A++B).map Crd.a=ausrD (us.map Crd.a) n/\(A++B).map (fun c:Crd=>(c.user,ptr c.b))=mdel (us.map fun c=>(c.user,ptr c.b)) n/\
   (∀c':Crd,c'.user=n->c'.b=c.b->(A++c'::B).map (fun c:Crd=>(c.user,ptr c.b))=us.map fun c=>(c.user,ptr c.b)))\/
  (mlook (us.map fun c=>(c.user,ptr c.b)) n=none/\ausr (us.map Crd.a) n=none/\crdO us n=none)
 | []=> .inr ⟨rfl,rfl,rfl⟩
 | c::r=>by
  by_cases h:c.user=n
  ·refine .inl ⟨[],c,r,rfl,by simp [crdO,h],h,?_,?_,?_,?_,?_,?_⟩
   ·simp [mlook,h]
   ·simp [ausr,Crd.a,h]
   ·intro c' f h1 h2
    have h0:c.a.user=n:=h
    simp [ausrU,h0,h2]
   ·simp [ausrD,Crd.a,h]
   ·simp [mdel,h]
   ·intro c' h1 h2
    simp [h1,h2,h]
  ·have h0: ¬c.a.user=n:=h
   rcases z_mE n r with ⟨A,c0,B,rfl,h8,h1,h2,h3,h4,h5,h6,h7⟩ | ⟨h1,h2,h3⟩
   ·refine .inl ⟨c::A,c0,B,rfl,by simpa [crdO,h] using h8,h1,?_,?_,?_,?_,?_,?_⟩
    ·simpa [mlook,h] using h2
    ·simp only [List.map_cons,ausr,if_neg h0];exact h3
    ·intro c' f q1 q2
     have:=h4 c' f q1 q2
     simp only [List.cons_append,List.map_cons,ausrU,if_neg h0] at this ⊢
     rw [this]
    ·simp only [List.cons_append,List.map_cons,ausrD,if_neg h0] at h5 ⊢
     rw [h5]
    ·simp only [List.cons_append,List.map_cons,mdel,if_neg h] at h6 ⊢
     rw [h6]
    ·intro c' q1 q2
     have:=h7 c' q1 q2
     simp only [List.cons_append,List.map_cons] at this ⊢
     rw [this]
   ·refine .inr ⟨?_,?_,?_⟩
    ·simpa [mlook,h] using h1
    ·simp only [List.map_cons,ausr,if_neg h0];exact h2
    ·simpa [crdO,h] using h3
end Go.Proofs.YtloeaiafphkjnaaGreatDoor.Sx
namespace Go.Proofs.YtloeaiafphkjnaaGreatDoor.Sx
open Go
attribute [local irreducible] Calls
theorem z_cQ {f:Fact} {W w:World} (h:f.p W) (hD: ∀k,f.D k->k<W.heap.size) (ho:(oldF W).p w):f.p w:=f.st W w (fun k hk=>ho k (hD k hk)) h
theorem z_iQ {S:Sto} {w:World} (h:(stoF S).p w):(bkF S.b z_ay S.vs).p w:=h.1 _ (by simp)
theorem z_kV {S:Sto} {w:World} (h:(stoF S).p w):mapP S.m S.ml w:=h.1 (mapF S.m S.ml) (by simp)
theorem z_lb {S:Sto} {w:World} (h:(stoF S).p w) {A B:List Ten} {T:Ten} (hT:S.ts=A++T::B):(tenF T).p w:=by
 have h1:(sepF (S.ts.map tenF)).p w:=h.1 _ (by simp)
 exact h1.1 _ (by rw [hT];simp)
theorem z_mO {T:Ten} {w:World} (h:(tenF T).p w):mapP T.b T.m w:=h.1 (mapF T.b T.m) (by simp)
theorem z_uB {T:Ten} {w:World} (h:(tenF T).p w) {A B:List Crd} {c:Crd} (hc:T.us=A++c::B):(crdF c).p w:=by
 have h1:(sepF (T.us.map crdF)).p w:=h.1 _ (by simp)
 exact h1.1 _ (by rw [hc];simp)
theorem z_vC {c:Crd} {w:World} (h:(crdF c).p w):(bkF c.b z_ao c.vs).p w:=h.1 _ (by simp [Crd.fs])
theorem bkc {b ty:Nat} {cs:List Value} {w:World} (h:(bkF b ty cs).p w) {o:Nat} {v:Value} (ho:cs[o]?=some v):w.cell? ⟨b,o,none⟩=some v:=by
 have h':w.heap[b]?=some (.cells cs.toArray ty (0,0)):=h
 rw [cell_of_row w b o _ _ _ h']
 simpa using ho
def mapV:Option Ten->Value
 | some T=> .map (some T.b)
 | none=> .map none
theorem z_st (w:World):(zeroValue z_bl).run Tryz.prog w= .ok (.map none) w:=by kernel_rfl
theorem z_kZ (w:World):(zeroValue z_kf).run Tryz.prog w= .ok (.pointer none) w:=by kernel_rfl
theorem z_mV (w:World) (S:Sto) (t:ByteArray) (h:(stoF S).p w) (hl: ∀k,(stoF S).D k->k<w.heap.size):Pu Tryz.prog z_d9 #[ptr S.b,.string t] w (mapV (tenO S.ts t)):=by
 have g:=z_gz w (Un [])
 refine z_ad (cx:=z_d3 w (Un [])) g z_iI rfl rfl (β:=Va.z) [.c (.v (ptr S.b)),.c (.v (.string t))] 0 [] [oldF w] rfl rfl (z_aw rfl) ?_
 refine ⟨.map (some S.m),fun β w' hs=>bkc (z_iQ (z_cQ h hl (hs.get 0 rfl))) rfl,?_⟩
 refine ⟨.map none,fun w=>z_st w,S.ml,mlook S.ml t,fun β w' hs=>z_kV (z_cQ h hl (hs.get 0 rfl)),rfl,?_⟩
 rcases z_g4 t S.ts with ⟨A,T,B,e,h0,h1,h2,_⟩ | ⟨h1,h2,h3⟩
 ·rw [show mlook S.ml t=_ from h2,h0]
  intro β w' hs
  exact hs.fin [] ⟨rfl,rfl⟩
 ·rw [show mlook S.ml t=_ from h1,h3]
  intro β w' hs
  exact hs.fin [] ⟨rfl,rfl⟩
theorem z_tX (w:World) (S:Sto) (h:(stoF S).p w) (hl: ∀k,(stoF S).D k->k<w.heap.size):Pu Tryz.prog z_eB #[ptr S.b] w (.int .u64 (S.last:Int)):=by
 have g:=z_hp w (Un [])
 refine z_ad (cx:=z_en w (Un [])) g z_jJ rfl rfl (β:=Va.z) [.c (.v (ptr S.b))] 0 [] [oldF w] rfl rfl (z_aw rfl) ?_
 refine ⟨.int .u64 (S.last:Int),fun β w' hs=>bkc (z_iQ (z_cQ h hl (hs.get 0 rfl))) rfl,?_⟩
 intro β w' hs
 exact hs.fin [] ⟨rfl,rfl⟩
structure SecV where
 A1:Option Addr
 n1:Nat
 c1:Nat
 it:Int
 A2:Option Addr
 n2:Nat
 c2:Nat
 A3:Option Addr
 n3:Nat
 c3:Nat
 A4:Option Addr
 n4:Nat
 c4:Nat
def SecV.vs (x:SecV):List Value:=[.slice x.A1 x.n1 x.c1,.int .i64 x.it,.slice x.A2 x.n2 x.c2,.slice x.A3 x.n3 x.c3,.slice x.A4 x.n4 x.c4]
def SecV.ss (x:SecV):List SL:=[.v (.slice x.A1 x.n1 x.c1),.v (.int .i64 x.it),.v (.slice x.A2 x.n2 x.c2),.v (.slice x.A3 x.n3 x.c3),.v (.slice x.A4 x.n4 x.c4)]
def rightN (x:SecV):Bool:=saltedN x.n1 x.it&&(decide (x.n2=32)&&(decide (x.n3=32)&&decide (x.n4=32)))
theorem z_tz (w:World) (x:SecV):Pu Tryz.prog z_dV #[.agg x.vs.toArray] w (.bool (rightN x)):=by
 have g:=z_fK w (Un [])
 refine z_ad (cx:=z_dh w (Un [])) g z_hR rfl rfl (β:=Va.z) [.agg x.ss] 0 [] [] rfl rfl (Sat.start rfl) ?_
 refine z_af (fun β w' hs=>z_rX w' x.A1 x.n1 x.c1 x.it) ?_
 generalize hq:saltedN x.n1 x.it=b0
 cases b0 with
 | false=>
  intro β w' hs
  refine (hs.keepB (List.nil_sublist _)).fin [] ⟨?_,rfl⟩
  unfold rightN
  rw [hq]
  rfl
 | true=>
  conv=>whnf
  generalize h1:decide ((x.n2:Int)=(32:Int))=b1
  have e1:decide (x.n2=32)=b1:=by rw [<-h1];exact decide_eq_decide.2 (by omega)
  cases b1 with
  | false=>
   intro β w' hs
   refine (hs.keepB (List.nil_sublist _)).fin [] ⟨?_,rfl⟩
   unfold rightN
   rw [hq,e1]
   rfl
  | true=>
   conv=>whnf
   generalize h2:decide ((x.n3:Int)=(32:Int))=b2
   have e2:decide (x.n3=32)=b2:=by rw [<-h2];exact decide_eq_decide.2 (by omega)
   cases b2 with
   | false=>
    intro β w' hs
    refine (hs.keepB (List.nil_sublist _)).fin [] ⟨?_,rfl⟩
    unfold rightN
    rw [hq,e1,e2]
    rfl
   | true=>
    intro β w' hs
    refine (hs.keepB (List.nil_sublist _)).fin [] ⟨?_,rfl⟩
    unfold rightN
    rw [hq,e1,e2]
    show Value.bool (decide ((x.n4:Int)=(32:Int)))=_
    congr 1
    exact decide_eq_decide.2 (by omega)
structure SRd (x:SecV) (a:ASec) (w:World):Prop where
 n1:x.n1=a.salt.length
 it:x.it=a.iter
 n2:x.n2=a.stored.length
 n3:x.n3=a.server.length
 n4:x.n4=a.ha1.length
 r1:Bs w x.A1 a.salt
 r2:Bs w x.A2 a.stored
 r3:Bs w x.A3 a.server
 r4:Bs w x.A4 a.ha1
theorem SRd.old {x:SecV} {a:ASec} {W w:World} (h:SRd x a W) (ho:(oldF W).p w):SRd x a w:=⟨h.n1,h.it,h.n2,h.n3,h.n4,Rd.old h.r1 ho,Rd.old h.r2 ho,Rd.old h.r3 ho,Rd.old h.r4 ho⟩
theorem SRd.right {x:SecV} {a:ASec} {w:World} (h:SRd x a w):rightN x=rightA a:=by
 unfold rightN rightA saltedN saltedA
 rw [h.n1,h.it,h.n2,h.n3,h.n4]
structure ASz (a:ASec):Prop where
 s:a.salt.length<=1000000
 d:a.stored.length<=1000000
 v:a.server.length<=1000000
 h:a.ha1.length<=1000000
def Sec.x (y:Sec):SecV:=⟨y.salt.A,y.salt.l.length,y.salt.c,y.iter,y.stored.A,y.stored.l.length,y.stored.c,y.server.A,y.server.l.length,y.server.c,y.ha1.A,y.ha1.l.length,y.ha1.c⟩
theorem Sec.rd {y:Sec} {w:World} (h: ∀f∈y.fs,f.p w):SRd y.x y.a w:=
 ⟨rfl,rfl,rfl,rfl,rfl,h y.salt.f (by simp [Sec.fs]),h y.stored.f (by simp [Sec.fs]),h y.server.f (by simp [Sec.fs]),h y.ha1.f (by simp [Sec.fs])⟩
theorem z_od (w:World) (x:SecV) (a:ASec) (hr:SRd x a w) (hz:ASz a):
  Con Tryz.prog z_dl #[.agg x.vs.toArray] w [] fun v Fs=> ∃y:Sec,y.a=a/\v= .agg y.vs.toArray/\Fs=[y.ha1.f,y.server.f,y.stored.f,y.salt.f]:=by
 have g:=z_fl w (Un [])
 refine z_ad (cx:=z_bc w (Un [])) g z_hy rfl rfl (β:=Va.z) [.agg x.ss] 0 [] [oldF w] rfl rfl (z_aw rfl) ?_
 have hS: ∀ {n:Nat} {F:List Fact},Sub (z_bc w (Un [])) n [⟨1,z_a4,ti98.zero.map SL.v⟩,⟨0,z_a4,x.ss⟩] F [⟨0,z_a4,x.ss⟩] []:=fun {n F}=>Sub.of (List.sublist_cons_self _ _) (List.nil_sublist _)
 refine z_ak g z_f5 (by kernel_rfl) [⟨0,z_a4,x.ss⟩] [] hS ?_
 refine z_ac [] (fun β w' hs=>z_i8 w' x.A1 a.salt x.n1 x.c1 hr.n1 (Rd.old hr.r1 (hs.get 0 rfl)) hz.s) ?_
 rintro v Fs ⟨r1,e1,rfl,rfl⟩
 refine ⟨hS,?_⟩
 refine z_ac [] (fun β w' hs=>z_i8 w' x.A2 a.stored x.n2 x.c2 hr.n2 (Rd.old hr.r2 (hs.get 1 rfl)) hz.d) ?_
 rintro v Fs ⟨r2,e2,rfl,rfl⟩
 refine ⟨hS,?_⟩
 refine z_ac [] (fun β w' hs=>z_i8 w' x.A3 a.server x.n3 x.c3 hr.n3 (Rd.old hr.r3 (hs.get 2 rfl)) hz.v) ?_
 rintro v Fs ⟨r3,e3,rfl,rfl⟩
 refine ⟨hS,?_⟩
 refine z_ac [] (fun β w' hs=>z_i8 w' x.A4 a.ha1 x.n4 x.c4 hr.n4 (Rd.old hr.r4 (hs.get 3 rfl)) hz.h) ?_
 rintro v Fs ⟨r4,e4,rfl,rfl⟩
 refine ⟨hS,?_⟩
 intro β w' hs
 refine (hs.keepB (List.nil_sublist _)).fin [0,1,2,3] ⟨⟨r1,x.it,r2,r3,r4⟩,?_,rfl,rfl⟩ rfl rfl rfl ⟨rfl,rfl,rfl,rfl,trivial⟩
 show ASec.mk r1.l x.it r2.l r3.l r4.l=a
 rw [e1,e2,e3,e4,hr.it]
theorem z_ts (w:World) (A:Option Addr) (l:List ByteArray) (c:Nat) (hr:Rd 1 A l.length (strs l) w) (hn:l.length<=1000000):
  Con Tryz.prog z_aH #[.slice A l.length c] w [] fun v Fs=> ∃A' c',v= .slice A' l.length c'/\l.length<=c'/\c'<=maxLen/\Fs=[srowF A' l c']:=by
 refine z_ad (cx:=z_aE w (Un [])) (z_aW w (Un [])) z_ba rfl rfl (β:=Va.z) [.c (.v (.slice A l.length c))] 0 [] [rdF 1 A l.length (strs l)] rfl rfl ((Sat.start rfl).rd (fun _ h=>by cases h) hr) ?_
 refine BIf.mk (fun h=>?_) (fun h=>?_)
 ·intro β w' hs
  have hA:A=none:=by simpa using h
  subst hA
  have hl:l=[]:=by
   cases l with
   | nil=>rfl
   | cons x r=>obtain ⟨ad,q,_⟩:=hr.2 (by simp);cases q
  subst hl
  exact (hs.nilRow z_ah 1).fin [0] ⟨none,0,rfl,Nat.le_refl _,Nat.zero_le _,rfl⟩
 intro b
 refine ⟨0,0,l.length,[],strs l,_,rfl,fun β w hs=>hs.get 1 rfl,z_ep l,Nat.zero_add _,rfl,by rw [z_ag];omega,by show l.length*16<=_;omega,?_⟩
 intro A' c' h1 h2 h3 β w' hs
 exact hs.fin [0] ⟨A',c',rfl,h1,h2,rfl⟩
def noRd:Value->Option (DataW Unit×List MemPlace):=fun _=>some (.nil,[])
def sortK (l:List ByteArray):List ByteArray:=((l.map fun s=>s.data.toList).mergeSort leB).map mkS
theorem z_iO (l:List ByteArray):(sortK l).length=l.length:=by simp [sortK]
theorem z_uc {P:Program} {k:TypeId} (hk:P.underlying k=some .string) {e:ME} (hs:e.1.size<=maxLen):WideElems.rd P k noRd e.ent=some (.string e.1.data.toList,.nil):=by
 unfold WideElems.rd
 have h:keyOf P k e.ent.key=some (.string e.1.data.toList):=by
  simp [ME.ent,keyOf,hk,mapKey,hs]
 rw [h]
 rfl
structure KeysOk (l:ML):Prop where
 nodup:(l.map (·.1)).Nodup
 size: ∀p∈l,p.1.size<=maxLen
theorem z_oY {P:Program} {k:TypeId} (hk:P.underlying k=some .string) {w:World} {b:Nat} {l:ML} (h:mapP b l w) (ho:KeysOk l) (hl:l.length<=1000000):
  ∃D:DataW Unit,w.ownsMap P k noRd b l.length D/\(strKeys D).Perm (l.map fun p=>p.1.data.toList)/\Maps.size D<=1000000:=by
 obtain ⟨es,c,hb,hm⟩:=h
 have hcut:=hm.cut
 have hlen:es.length=l.length:=by rw [<-hcut,List.length_map]
 have hrg: ∀e∈es,WideElems.rg P k noRd e.ent=(.string e.1.data.toList,.nil):=fun e he=>by
  unfold WideElems.rg
  rw [z_uc hk (ho.size (e.1,e.2.1) (by rw [<-hcut];exact List.mem_map.2 ⟨e,he,rfl⟩))]
  rfl
 have hmap:((es.map ME.ent).toArray.toList.map (WideElems.rg P k noRd))=es.map fun e=>((.string e.1.data.toList,.nil):Lit×DataW Unit):=by
  rw [List.toList_toArray,List.map_map]
  exact List.map_congr_left fun e he=>hrg e he
 refine ⟨_,⟨_,c,hb,⟨?_,?_,?_⟩,?_,rfl⟩,?_,?_⟩
 ·have:=z_ag
  simp only [List.size_toArray,List.length_map]
  omega
 ·refine (MapKept.stamped_iff _ _).2 ⟨?_,?_,?_⟩
  ·intro x hx
   rw [List.toList_toArray] at hx
   obtain ⟨e,he,rfl⟩:=List.mem_map.1 hx
   exact hm.lt e he
  ·rw [List.toList_toArray,List.map_map]
   have h2:=hm.inc
   refine List.Pairwise.imp (fun {a b} q=>Nat.ne_of_lt q) ?_
   have e3:es.map ((·.born)∘ME.ent)=es.map (·.2.2):=rfl
   rw [e3]
   exact h2
  ·rw [List.toList_toArray]
   have h2:=ho.nodup
   rw [<-hcut,List.map_map] at h2
   refine List.pairwise_map.2 ?_
   have h3:=List.pairwise_map.1 h2
   refine h3.imp fun {a b} q r=>q ?_
   have r':Value.string a.1=Value.string b.1:=r
   injection r'
 ·intro x hx
  rw [List.toList_toArray] at hx
  obtain ⟨e,he,rfl⟩:=List.mem_map.1 hx
  exact ⟨_,z_uc hk (ho.size (e.1,e.2.1) (by rw [<-hcut];exact List.mem_map.2 ⟨e,he,rfl⟩))⟩
 ·simp only [List.size_toArray,List.length_map]
  omega
 ·rw [hmap]
  show ((es.map fun e=>((.string e.1.data.toList,.nil):Lit×DataW Unit)).foldr DataW.insert []).map (fun p=>strOf p.1) |>.Perm _
  refine ((WideShapes.sorted_perm _).map _).trans ?_
  rw [List.map_map,<-hcut,List.map_map]
  exact List.Perm.refl _
 ·rw [hmap]
  show ((es.map fun e=>((.string e.1.data.toList,.nil):Lit×DataW Unit)).foldr DataW.insert []).length<=_
  rw [(WideShapes.sorted_perm _).length_eq,List.length_map]
  omega
theorem z_u2 (l:List UInt8) (k:Nat):(sizF l k).1.length<=k:=by
 unfold sizF
 split
 ·split
  ·exact Nat.zero_le _
  ·split
   ·exact Nat.zero_le _
   ·rename_i h;exact Nat.le_of_not_lt h
 ·exact Nat.zero_le _
theorem z_sA (l:List UInt8):(mkS l).size=l.length:=by simp [mkS,ByteArray.size]
theorem z_nr (s:ByteArray):(nameA s).1.size<=32:=by rw [nameA,z_sA];exact z_u2 _ 32
end Go.Proofs.YtloeaiafphkjnaaGreatDoor.Sx
namespace Go.Proofs.YtloeaiafphkjnaaGreatDoor.Sx
open Go
attribute [local irreducible] Calls
noncomputable def cx0 (w:World) (S:Nat->Prop):Cx:=⟨Tryz.prog,w,S,0,[],[],[],none,[]⟩
theorem Sat.recut {cx:Cx} {β:Va} {n:Nat} {H:List Bk} {F:List Fact} {w:World} (h:Sat cx β n H F w) (js:List Nat) {F0 Fs:List Fact} (hre:Sat (cx0 w (Un F0)) Va.z 0 [] F0 w->Sat (cx0 w (Un F0)) Va.z 0 [] Fs w)
  (htk:takeIx F js=F0:=by rfl) (hn:nodupB js=true:=by rfl) (ho:Owns F0:=by first | exact ⟨rfl,trivial⟩ | exact ⟨rfl,rfl,trivial⟩ | exact ⟨rfl,rfl,rfl,trivial⟩ | exact ⟨rfl,rfl,rfl,rfl,trivial⟩) (ho':Owns Fs:=by first | exact ⟨rfl,trivial⟩ | exact ⟨rfl,rfl,trivial⟩ | exact ⟨rfl,rfl,rfl,trivial⟩ | exact ⟨rfl,rfl,rfl,rfl,trivial⟩):
  Sat cx β n H (Fs++dropIx js 0 F) w:=by
 subst htk
 have hm:=h.mem.take hn
 have h1:=hre (hm.sat0 rfl (fun f hf ho k hk=>⟨f,hf,hk⟩))
 refine h.swap js ho (Chg.refl _ _) h1.mem (fun f hf k hk=> .inl ?_)
 rcases h1.fown f hf (ho'.mem f hf) k hk with q | q
 ·exact q
 ·exact absurd (h1.flt f hf k hk) (Nat.not_lt.2 q)
section
variable {c0:Cx} {w:World}
end
theorem z_kw: ∀ {l:ML} {s:ByteArray} {v:Value},mlook l s=none->mput l s v=l++[(s,v)]
 | [],_,_,_=>rfl
 | (k,u)::r,s,v,h=>by
  simp only [mlook] at h
  split at h
  ·cases h
  ·rename_i hne
   simp only [mput,if_neg hne,List.cons_append]
   rw [z_kw h]
def secF (x:SecV) (a:ASec):Fact where
 own:=false
 D:=Un [bsF x.A1 a.salt,bsF x.A2 a.stored,bsF x.A3 a.server,bsF x.A4 a.ha1]
 p:=SRd x a
 st:=fun w w' hs h=>⟨h.n1,h.it,h.n2,h.n3,h.n4,(bsF x.A1 a.salt).st w w' (fun k hk=>hs k ⟨_,by simp,hk⟩) h.r1,(bsF x.A2 a.stored).st w w' (fun k hk=>hs k ⟨_,by simp,hk⟩) h.r2,(bsF x.A3 a.server).st w w' (fun k hk=>hs k ⟨_,by simp,hk⟩) h.r3,(bsF x.A4 a.ha1).st w w' (fun k hk=>hs k ⟨_,by simp,hk⟩) h.r4⟩
def sto0 (b m:Nat):Sto:=⟨b,m,[],0,0⟩
theorem z_qC (w:World):Con Tryz.prog z_mv #[] w [] fun v Fs=> ∃b m,v=ptr b/\Fs=[stoF (sto0 b m)]:=by
 have g:=z_mH w (Un [])
 refine z_ad (cx:=z_k5 w (Un [])) g z_p2 rfl rfl (β:=Va.z) [] 0 [] [] rfl rfl (Sat.start rfl) ?_
 intro m
 intro β w' hs
 have h1:=(hs.ofBk).noMem (sepF []) ⟨fun f hf=>(by cases hf),List.Pairwise.nil⟩ (fun k hk=>by obtain ⟨f,hf,_⟩:=hk;cases hf)
 have h2:=h1.sep [1,2,0]
 exact h2.fin [0] ⟨β 0,m,rfl,rfl⟩
end Go.Proofs.YtloeaiafphkjnaaGreatDoor.Sx
namespace Go.Proofs.YtloeaiafphkjnaaGreatDoor.Sx
open Go
attribute [local irreducible] Calls
def addT (X:ASto) (t:ByteArray):Int×ASto:=
 if plainF t.data.toList=false then (5,X) else if (aten X.ts t).isSome then (7,X) else if 8<=X.ts.length then (8,X) else (0,{X with ts:=X.ts++[(t,[])]})
def stoOut (S:Sto) (r:Int×ASto) (v:Value) (Fs:List Fact):Prop:= ∃S':Sto,v= .int .i64 r.1/\S'.a=r.2/\S'.b=S.b/\Fs=[stoF S']
theorem z_a2 {S:Sto} {r:Int×ASto} {e:Int} (h:r=(e,S.a)):stoOut S r (.int .i64 e) [stoF S]:=⟨S,by rw [h],by rw [h],rfl,rfl⟩
theorem z_t9 (S:Sto):S.ml.length=S.a.ts.length:=by simp [Sto.ml,Sto.a]
theorem z_pj {c0:Cx} {w:World} {S:Sto} {t:ByteArray} {mb:Nat} (h0:Sat c0 Va.z 0 [] [bkF S.b z_ay S.vs,mapF S.m (S.ml++[(t,.map (some mb))]),sepF (S.ts.map tenF),mapF mb []] w):
  Sat c0 Va.z 0 [] [stoF {S with ts:=S.ts++[⟨mb,t,[]⟩]}] w:=by
 have h1:=h0.noMem (sepF []) ⟨fun f hf=>(by cases hf),List.Pairwise.nil⟩ (fun k hk=>by obtain ⟨f,hf,_⟩:=hk;cases hf)
 have h2:=h1.sep [4,0]
 have h3:=h2.blur 0 3 (A:=S.ts.map tenF) (B:=[]) (x:=tenF ⟨mb,t,[]⟩) rfl (by show some (sepF (S.ts.map tenF))=_;rw [List.append_nil]) rfl (by decide)
 have h4:=h3.sep [1,2,0]
 have e:stoF {S with ts:=S.ts++[⟨mb,t,[]⟩]}=sepF [bkF S.b z_ay S.vs,mapF S.m (S.ml++[(t,.map (some mb))]),sepF (S.ts.map tenF++[tenF ⟨mb,t,[]⟩])]:=by
  unfold stoF Sto.ml
  simp [Sto.vs]
 rw [e]
 exact h4
theorem z_ow (w:World) (S:Sto) (t:ByteArray) (ht:t.size<=100000) (hm:Mem w [stoF S]):Con Tryz.prog z_ch #[ptr S.b,.string t] w [stoF S] (stoOut S (addT S.a t)):=by
 have g:=z_et w (Un [stoF S])
 refine z_ad (cx:=z_bZ w (Un [stoF S])) g z_fQ rfl rfl (β:=Va.z) [.c (.v (ptr S.b)),.c (.v (.string t))] 0 [] [stoF S] rfl rfl (hm.sat0 rfl (fun f hf ho k hk=>⟨f,hf,hk⟩)) ?_
 refine z_af (fun β w' hs=>z_oq w' t ht) ?_
 generalize hp:plainF t.data.toList=bp
 cases bp with
 | false=>
  intro β w' hs
  exact hs.fin [0] (z_a2 (by unfold addT;rw [if_pos hp]))
 | true=>
  have hp': ¬plainF t.data.toList=false:=by rw [hp];decide
  rcases z_g4 t S.ts with ⟨A,T,B,eT,h0,h1,h2,h3,_⟩ | ⟨h1,h2,h3⟩
  ·refine z_af (v:= .map (some T.b)) (fun β w' hs=>by
    have h:=z_mV w' S t (hs.get 0 rfl) (hs.getLt 0 rfl)
    rw [h0] at h
    exact h) ?_
   intro β w' hs
   refine hs.fin [0] (z_a2 ?_)
   unfold addT
   rw [if_neg hp',if_pos (by show (aten (S.ts.map Ten.a) t).isSome=true;rw [h3];rfl)]
  ·refine z_af (v:= .map none) (fun β w' hs=>by
    have h:=z_mV w' S t (hs.get 0 rfl) (hs.getLt 0 rfl)
    rw [h3] at h
    exact h) ?_
   have h2': ¬(aten S.a.ts t).isSome=true:=by show¬(aten (S.ts.map Ten.a) t).isSome=true;rw [h2];simp
   have hl:=z_t9 S
   refine ⟨.map (some S.m),fun β w' hs=>bkc (z_iQ (hs.get 0 rfl)) rfl,?_⟩
   refine ⟨S.ml,fun β w' hs=>z_kV (hs.get 0 rfl),?_⟩
   refine BIf.dec (fun hf=>?_) (fun hf=>?_)
   ·have hf0:(8:Int)<=(S.ml.length:Int):=hf
    intro β w' hs
    refine hs.fin [0] (z_a2 ?_)
    unfold addT
    rw [if_neg hp',if_neg h2',if_pos (by omega)]
   ·have hf0: ¬(8:Int)<=(S.ml.length:Int):=hf
    refine ⟨.map (some S.m),fun β w' hs=>bkc (z_iQ (hs.get 0 rfl)) rfl,?_⟩
    intro mb
    refine ⟨[],fun _=>[stoF {S with ts:=S.ts++[⟨mb,t,[]⟩]}],fun β w' hs=>?_,fun _=>?_⟩
    ·have q1:=hs.unsep 1 rfl
     obtain ⟨w2,q2,q3⟩:=q1.mapPut g 1 rfl (t:=z_aD) t (.map (some mb))
     rw [z_kw (show mlook S.ml t=none from h1)] at q3
     exact ⟨w2,0,q2,q3.recut [0,1,2,3] z_pj⟩
    ·intro β w' hs
     refine hs.fin [0] ⟨{S with ts:=S.ts++[⟨mb,t,[]⟩]},?_,?_,rfl,rfl⟩
     ·unfold addT
      rw [if_neg hp',if_neg h2',if_neg (by omega)]
      rfl
     ·unfold addT
      rw [if_neg hp',if_neg h2',if_neg (by omega)]
      show ASto.mk ((S.ts++[(⟨mb,t,[]⟩:Ten)]).map Ten.a) _ _=_
      rw [List.map_append]
      rfl
theorem z_ss {c0:Cx} {w:World} {S:Sto} {A B:List Ten} {T:Ten} {n:ByteArray} {c:Crd} {last:Nat} (hT:S.ts=A++T::B) (hn:c.user=n)
  (h0:Sat c0 Va.z 0 [] [bkF S.b z_ay [.map (some S.m),.int .u64 (last:Int),.int .u64 S.reads],bkF c.b z_ao c.vs,sepF c.parts,mapF T.b (T.m++[(n,ptr c.b)]),sepF (T.us.map crdF),mapF S.m S.ml,sepF ((A++B).map tenF)] w):
  Sat c0 Va.z 0 [] [stoF {S with ts:=A++ {T with us:=T.us++[c]}::B,last:=last}] w:=by
 have h1:=h0.unsep 2 rfl
 have h2:=h1.sep [6,0,1,2,3,4] rfl ⟨rfl,rfl,rfl,rfl,rfl,rfl,trivial⟩
 have h3:=h2.blur 0 3 (A:=T.us.map crdF) (B:=[]) (x:=crdF c) rfl (by show some (sepF (T.us.map crdF))=_;rw [List.append_nil]) rfl (by decide)
 have h4:=h3.sep [2,0]
 have e1:tenF {T with us:=T.us++[c]}=sepF [mapF T.b (T.m++[(n,ptr c.b)]),sepF (T.us.map crdF++[crdF c])]:=by
  unfold tenF Ten.m
  simp [hn]
 have h4':Sat c0 Va.z 0 [] [tenF {T with us:=T.us++[c]},bkF S.b z_ay [.map (some S.m),.int .u64 (last:Int),.int .u64 S.reads],mapF S.m S.ml,sepF (A.map tenF++B.map tenF)] w:=by
  rw [e1,<-List.map_append]
  exact h4
 have h5:=h4'.blur 0 3 (A:=A.map tenF) (B:=B.map tenF) (x:=tenF {T with us:=T.us++[c]}) rfl rfl rfl (by decide)
 have h6:=h5.sep [1,2,0]
 have e:stoF {S with ts:=A++ {T with us:=T.us++[c]}::B,last:=last}=sepF [bkF S.b z_ay [.map (some S.m),.int .u64 (last:Int),.int .u64 S.reads],mapF S.m S.ml,sepF (A.map tenF++tenF {T with us:=T.us++[c]}::B.map tenF)]:=by
  unfold stoF Sto.ml
  rw [hT]
  simp [Sto.vs]
 rw [e]
 exact h6
theorem z_r9 {c0:Cx} {w:World} {S:Sto} {A B:List Ten} {T:Ten} (hT:S.ts=A++T::B) (h0:Sat c0 Va.z 0 [] [stoF S] w):
  Sat c0 Va.z 0 [] [bkF S.b z_ay S.vs,mapF T.b T.m,sepF (T.us.map crdF),mapF S.m S.ml,sepF ((A++B).map tenF)] w:=by
 have h1:=h0.unsep 0 rfl
 have h2:=h1.focus 2 (A:=A.map tenF) (B:=B.map tenF) (x:=tenF T) (by show some (sepF (S.ts.map tenF))=_;rw [hT,List.map_append,List.map_cons]) rfl
 have h3:=h2.unsep 0 rfl
 have h4:=h3.perm [3,0,1,4,2]
 rw [List.map_append]
 exact h4
theorem z_ve {c:Crd} {w:World} (h:(crdF c).p w):SRd c.sec.x c.sec.a w:=Sec.rd fun f hf=>h.1 f (by
 unfold Crd.fs Crd.parts
 exact List.mem_cons_of_mem _ (List.mem_cons_of_mem _ hf))
theorem z_sB {c:Crd} {w:World} (h:(crdF c).p w):Rd 1 c.rA c.roles.length (strs c.roles) w:=h.1 (strsF c.rA c.roles) (by simp [Crd.fs,Crd.parts])
theorem strsRow {A:Option Addr} {l:List ByteArray} {c:Nat} {w:World} (h:(srowF A l c).p w):(strsF A l).p w:=z_am h
theorem strsRowD {A:Option Addr} {l:List ByteArray} {c:Nat} {w:World} (h:(srowF A l c).p w): ∀k,(strsF A l).D k->(srowF A l c).D k:=by
 rintro k ⟨hk,ad,q,rfl⟩
 have hl:0<l.length:=by
  have:0<l.length*1:=hk
  omega
 have q':A=some ad:=q
 rcases h.2 with ⟨he,h0⟩ | ⟨g,cap,cur,he,_⟩
 ·omega
 ·have hA:A=some ⟨g,0,none⟩:=by injection he
  rw [q'] at hA
  obtain rfl:=Option.some.inj hA
  show Value.ownBlock (.slice A l.length c)=_
  rw [q']
  rfl
theorem Sat.strsRow {cx:Cx} {β:Va} {n:Nat} {H:List Bk} {F:List Fact} {w:World} (h:Sat cx β n H F w) (j:Nat) {A:Option Addr} {l:List ByteArray} {c:Nat} (hj:nth F j=some (srowF A l c)):Sat cx β n H (putAt F j (strsF A l)) w:=by
 have hp:=h.get j hj
 exact h.upd hj rfl (Chg.refl _ _) (z_am hp) (fun k hk=> .inl (strsRowD hp k hk))
structure CSz (a:ACrd):Prop where
 sec:ASz a.sec
 roles:a.roles.length<=1000000
def Crd.ss (c:Crd):List SL:= .v (.string c.tenant):: .v (.string c.user)::(c.sec.x.ss++[.v (.int .u64 c.gen),.v (.slice c.rA c.roles.length c.rc),.v (.bool c.revoked)])
theorem z_r3 (w:World) (c:Crd) (h1:SRd c.sec.x c.sec.a w) (h2:Rd 1 c.rA c.roles.length (strs c.roles) w) (hz:CSz c.a):
  Con Tryz.prog z_bY #[.agg c.vs.toArray] w [] fun v Fs=> ∃c':Crd,c'.a=c.a/\v= .agg c'.vs.toArray/\Fs=[srowF c'.rA c'.roles c'.rc,c'.sec.ha1.f,c'.sec.server.f,c'.sec.stored.f,c'.sec.salt.f]:=by
 have g:=z_cG w (Un [])
 refine z_ad (cx:=z_aK w (Un [])) g z_el rfl rfl (β:=Va.z) [.agg c.ss] 0 [] [oldF w] rfl rfl (z_aw rfl) ?_
 have hS: ∀ {n:Nat} {F:List Fact},Sub (z_aK w (Un [])) n [⟨1,z_ao,ti100.zero.map SL.v⟩,⟨0,z_ao,c.ss⟩] F [⟨0,z_ao,c.ss⟩] []:=fun {n F}=>Sub.of (List.sublist_cons_self _ _) (List.nil_sublist _)
 refine z_ak g z_dg (by kernel_rfl) [⟨0,z_ao,c.ss⟩] [] hS ?_
 refine z_ac [] (fun β w' hs=>z_od w' c.sec.x c.sec.a (h1.old (hs.get 0 rfl)) hz.sec) ?_
 rintro v Fs ⟨y,hy,rfl,rfl⟩
 refine ⟨hS,?_⟩
 refine z_ac [] (fun β w' hs=>z_ts w' c.rA c.roles c.rc (Rd.old h2 (hs.get 4 rfl)) hz.roles) ?_
 rintro v Fs ⟨A',c',rfl,_,_,rfl⟩
 refine ⟨hS,?_⟩
 intro β w' hs
 refine (hs.keepB (List.nil_sublist _)).fin [0,1,2,3,4] ⟨⟨0,c.tenant,c.user,y,c.gen,A',c',c.roles,c.revoked⟩,?_,rfl,rfl⟩ rfl rfl rfl ⟨rfl,rfl,rfl,rfl,rfl,trivial⟩
 show ACrd.mk _ _ y.a _ _ _=ACrd.mk _ _ _ _ _ _
 rw [hy]
def crdRows (c:Crd):List Fact:=[srowF c.rA c.roles c.rc,c.sec.ha1.f,c.sec.server.f,c.sec.stored.f,c.sec.salt.f]
theorem add2 (b o j:Nat):((⟨b,o,none⟩:Addr).add j)=⟨b,o+j,none⟩:=by rw [z_bJ]
def tlt (x y:ByteArray):Prop:=x.toList<y.toList
instance (x y:ByteArray):Decidable (tlt x y):=by unfold tlt;exact inferInstance
theorem z_gY (x y:ByteArray):Op.bytesLess x.toList y.toList=decide (tlt x y):=bytesLess_eq _ _
theorem z_iX (b:ByteArray):b.toList=b.data.toList:=ByteArray.toList_eq b
theorem z_vV {x y:ByteArray} (h:x.toList=y.toList):x=y:=by
 rw [z_iX,z_iX] at h
 exact ByteArray.ext (Array.ext' h)
theorem z_bU (x:ByteArray): ¬tlt x x:=by unfold tlt;exact List.lt_irrefl _
theorem z_b8 {x y z:ByteArray} (h:tlt x y) (k:tlt y z):tlt x z:=by unfold tlt at *;exact List.lt_trans h k
theorem z_iC {x y:ByteArray} (h:tlt x y): ¬tlt y x:=fun k=>z_bU x (z_b8 h k)
theorem z_ne (x y:ByteArray):tlt x y\/x=y\/tlt y x:=by
 unfold tlt
 by_cases h1:x.toList<y.toList
 ·exact .inl h1
 ·by_cases h2:y.toList<x.toList
  ·exact .inr (.inr h2)
  ·refine .inr (.inl (z_vV ?_))
   exact List.le_antisymm (List.not_lt.1 h2) (List.not_lt.1 h1)
def rank (l:List ByteArray) (x:ByteArray):Nat:=(l.filter fun y=>decide (tlt y x)).length
theorem z_qy {l:List ByteArray} {x:ByteArray} {i:Nat} (hi:i<=l.length) (h1: ∀k y,k<i->l[k]?=some y->tlt y x) (h2: ∀k y,i<=k->l[k]?=some y-> ¬tlt y x):rank l x=i:=by
 have e:l=l.take i++l.drop i:=(List.take_append_drop i l).symm
 unfold rank
 rw [e,List.filter_append]
 have f1:(l.take i).filter (fun y=>decide (tlt y x))=l.take i:=by
  refine List.filter_eq_self.2 fun y hy=>?_
  obtain ⟨k,hk⟩:=List.mem_iff_getElem?.1 hy
  have hkl:k<i:=by
   have:=(List.getElem?_eq_some_iff.1 hk).1
   rw [List.length_take] at this
   omega
  rw [List.getElem?_take,if_pos hkl] at hk
  exact decide_eq_true (h1 k y hkl hk)
 have f2:(l.drop i).filter (fun y=>decide (tlt y x))=[]:=by
  refine List.filter_eq_nil_iff.2 fun y hy=>?_
  obtain ⟨k,hk⟩:=List.mem_iff_getElem?.1 hy
  rw [List.getElem?_drop] at hk
  simpa using h2 (i+k) y (Nat.le_add_right _ _) hk
 rw [f1,f2,List.append_nil,List.length_take]
 omega
theorem z_nP {l:List ByteArray} (hs:l.Pairwise tlt) {i j:Nat} {x y:ByteArray} (hij:i<j) (hi:l[i]?=some x) (hj:l[j]?=some y):tlt x y:=by
 obtain ⟨h1,rfl⟩:=List.getElem?_eq_some_iff.1 hi
 obtain ⟨h2,rfl⟩:=List.getElem?_eq_some_iff.1 hj
 exact List.pairwise_iff_getElem.1 hs i j h1 h2 hij
def hasT (l:List ByteArray) (x:ByteArray):Bool:=l.any fun y=>decide (y=x)
theorem hasT_iff {l:List ByteArray} {x:ByteArray}:hasT l x=true↔x∈l:=by
 unfold hasT
 rw [List.any_eq_true]
 constructor
 ·rintro ⟨y,hy,h⟩
  exact of_decide_eq_true h▸hy
 ·exact fun h=>⟨x,h,decide_eq_true rfl⟩
theorem z_u8 {l:List ByteArray} {x:ByteArray} (h: ¬x∈l):hasT l x=false:=by
 cases q:hasT l x with
 | false=>rfl
 | true=>exact absurd (hasT_iff.1 q) h
def insT (l:List ByteArray) (i:Nat) (x:ByteArray):List ByteArray:=l.take i++x::l.drop i
theorem z_sR {l:List ByteArray} {i:Nat} {x:ByteArray} (hi:i<=l.length):(insT l i x).length=l.length+1:=by
 unfold insT
 rw [List.length_append,List.length_cons,List.length_take,List.length_drop]
 omega
theorem z_lu (l:List ByteArray) (i:Nat) (x:ByteArray):strs (insT l i x)=(strs l).take i++Value.string x::(strs l).drop i:=by
 simp [strs,insT,List.map_take,List.map_drop]
def raiseA (X:ASto) (n:Nat):Int×ASto:=if greatN<n then (4,X) else (0,{X with last:=max X.last n})
theorem z_rU (w:World) (S:Sto) (n:Nat) (hm:Mem w [stoF S]):Con Tryz.prog z_ec #[ptr S.b,.int .u64 (n:Int)] w [stoF S] (stoOut S (raiseA S.a n)):=by
 have g:=z_gs w (Un [stoF S])
 obtain ⟨x,hx⟩: ∃x:Int,(n:Int)=x:=⟨_,rfl⟩
 rw [hx]
 refine z_ad (cx:=z_dZ w (Un [stoF S])) g z_im rfl rfl (β:=Va.z) [.c (.v (ptr S.b)),.c (.v (.int .u64 x))] 0 [] [stoF S] rfl rfl (hm.sat0 rfl (fun f hf _ k hk=>⟨f,hf,hk⟩)) ?_
 refine BIf.dec (fun hg=>?_) (fun hg=>?_)
 ·have hg0:(9007199254740992:Int)<x:=hg
  intro β w' hs
  exact hs.fin [0] (z_a2 (by unfold raiseA;rw [if_pos (by unfold greatN;omega)]))
 ·have hg0: ¬(9007199254740992:Int)<x:=hg
  obtain ⟨y,hy⟩: ∃y:Int,((max S.last n:Nat):Int)=y:=⟨_,rfl⟩
  refine ⟨.int .u64 (S.last:Int),fun β w' hs=>bkc (z_iQ (hs.get 0 rfl)) rfl,?_⟩
  refine ⟨y,by show max (S.last:Int) x=y;rw [<-hy,<-hx];omega,?_⟩
  refine ⟨[stoF {S with last:=max S.last n}],fun β w' hs=>?_,?_⟩
  ·have k1:=hs.unsep 0 rfl
   obtain ⟨w2,e1,e2⟩:=k1.bkSet 0 (o:=1) (us:=[.int .u64 y]) rfl (by show 2<=3;decide) (fun u hu=>by obtain rfl:=List.mem_singleton.1 hu;rfl)
   refine ⟨w2,e1,?_⟩
   have k2:=e2.sep [0,1,2] rfl ⟨rfl,rfl,rfl,trivial⟩
   rw [<-hy] at k2
   exact k2
  intro β w' hs
  exact hs.fin [0] ⟨{S with last:=max S.last n},by unfold raiseA;rw [if_neg (by unfold greatN;omega)];rfl,by unfold raiseA;rw [if_neg (by unfold greatN;omega)];rfl,rfl,rfl⟩
def allPl (l:List ByteArray):Bool:=l.all fun r=>plainF r.data.toList
theorem z_tg (w:World) (r:ByteArray) (hr:r.size<=100000):Pu Tryz.prog z_au #[.string r] w (.bool (!plainF r.data.toList)):=by
 refine z_ad (cx:=z_cY w (Un [])) (z_fY w (Un [])) z_ib rfl rfl (β:=Va.z) [.c (.v (.string r))] 0 [] [] rfl rfl (Sat.start rfl) ?_
 refine z_af (fun β w' hs=>z_oq w' r hr) ?_
 intro β w' hs
 exact hs.fin [] ⟨rfl,rfl⟩
theorem z_un (w:World) (A:Option Addr) (l:List ByteArray) (c:Nat) (hr:Rd 1 A l.length (strs l) w) (hn:l.length<=1000000) (hs: ∀r∈l,r.size<=100000):
  Con Tryz.prog z_aU #[.slice A l.length c,.func (.func z_au) #[] #[]] w [] fun v Fs=> ∃i:Int,v= .int .i64 i/\(0<=i↔allPl l=false)/\Fs=[]:=by
 have g:=z_bQ w (Un [])
 refine z_ad (cx:=z_aP w (Un [])) g z_ca rfl rfl (β:=Va.z) [.c (.v (.slice A l.length c)),.c (.v (.func (.func z_au) #[] #[]))] 0 [] [oldF w] rfl rfl (z_aw rfl) ?_
 refine z_ai 0 (fun i:Nat=>[(0,.c (.v (.slice A l.length c))),(1,.c (.v (.func (.func z_au) #[] #[]))),(7,.c (.v (.int .i64 l.length))),(8,.c (.v (.int .i64 (i:Int))))]) (fun _=>[]) (fun _=>[oldF w])
  (fun i=>i<=l.length/\allPl (l.take i)=true) (fun i=>l.length - i) 0 ⟨Nat.zero_le _,rfl⟩ (Ent.same ⟨rfl,rfl,rfl,rfl,trivial⟩ rfl) g ?_
 rintro i ⟨hi,hpre⟩
 refine BIf.dec (fun hlt=>?_) (fun hge=>?_)
 ·have hlt0:(i:Int)<l.length:=hlt
  obtain ⟨y,hy,hym⟩:=at_lt (show i<l.length by omega)
  obtain ⟨ad,hA,_⟩:=hr.2 (by omega)
  refine ⟨ad,i,hA,rfl,by omega,.string y,fun β w' hs=>Rd.cell1 (by have h:=Rd.old hr (hs.get 0 rfl);rw [hA] at h;exact h) (by simp [strs,hy]),?_⟩
  have hys:=hs y hym
  obtain ⟨b,hb⟩: ∃b,plainF y.data.toList=b:=⟨_,rfl⟩
  refine Or.inl ⟨by kernel_rfl,?_⟩
  refine z_af (v:= .bool (!b)) (fun β w' hs=>by rw [<-hb];exact z_tg w' y hys) ?_
  cases b with
  | true=>
   refine ⟨((i+1:Nat):Int),by rw [wrap_i64 (by omega) (by omega)];rfl,?_⟩
   refine ⟨i+1,⟨by omega,?_⟩,by omega,Ent.same ⟨rfl,rfl,rfl,rfl,trivial⟩ rfl⟩
   rw [List.take_add_one,hy]
   unfold allPl at hpre ⊢
   rw [List.all_append,hpre]
   simp [hb]
  | false=>
   intro β w' hs
   refine hs.fin [] ⟨(i:Int),rfl,⟨fun _=>?_,fun _=>by omega⟩,rfl⟩
   cases q:allPl l with
   | false=>rfl
   | true=>rw [List.all_eq_true.1 q y hym] at hb;cases hb
 ·have hge0: ¬(i:Int)<l.length:=hge
  rw [List.take_of_length_le (by omega)] at hpre
  intro β w' hs
  exact hs.fin [] ⟨-1,rfl,⟨fun h=>absurd h (by decide),fun h=>by rw [hpre] at h;cases h⟩,rfl⟩
theorem z_uy (w:World) (A:Option Addr) (l:List ByteArray) (c:Nat) (hr:Rd 1 A l.length (strs l) w) (hn:l.length<=1000000) (hs_: ∀r∈l,r.size<=100000):
  Pu Tryz.prog z_aN #[.slice A l.length c,.func (.func z_au) #[] #[]] w (.bool (!allPl l)):=by
 refine z_ad (cx:=z_aI w (Un [])) (z_bu w (Un [])) z_bP rfl rfl (β:=Va.z) [.c (.v (.slice A l.length c)),.c (.v (.func (.func z_au) #[] #[]))] 0 [] [oldF w] rfl rfl (z_aw rfl) ?_
 refine z_ac [] (fun β w' hs=>z_un w' A l c (Rd.old hr (hs.get 0 rfl)) hn hs_) ?_
 rintro v Fs ⟨i,rfl,hi,rfl⟩
 intro β w' hs
 refine hs.fin [] ⟨?_,rfl⟩
 show Value.bool (decide (0<=i))=_
 cases q:allPl l with
 | false=>rw [decide_eq_true (hi.2 q)];rfl
 | true=>rw [decide_eq_false (fun h=>by rw [hi.1 h] at q;cases q)];rfl
structure CrdV where
 tenant:ByteArray
 user:ByteArray
 sec:SecV
 gen:Int
 rA:Option Addr
 rn:Nat
 rc:Nat
 revoked:Bool
def CrdV.ss (c:CrdV):List SL:= .v (.string c.tenant):: .v (.string c.user)::(c.sec.ss++[.v (.int .u64 c.gen),.v (.slice c.rA c.rn c.rc),.v (.bool c.revoked)])
def CrdV.vs (c:CrdV):List Value:= .string c.tenant:: .string c.user::(c.sec.vs++[.int .u64 c.gen,.slice c.rA c.rn c.rc,.bool c.revoked])
theorem z_s3 (w:World) (x:CrdV) (l:List ByteArray) (ht:x.tenant.size<=100000) (hl:x.rn=l.length) (hr:Rd 1 x.rA l.length (strs l) w) (hn:l.length<=1000000) (hs_: ∀r∈l,r.size<=100000):
  Pu Tryz.prog z_eH #[.agg x.vs.toArray] w (.bool (plainF x.tenant.data.toList&&allPl l)):=by
 have g:=z_ht w (Un [])
 obtain ⟨tn,us,sc,gn,rA,rn,rc,rv⟩:=x
 simp only at ht hl hr
 subst hl
 refine z_ad (cx:=z_ed w (Un [])) g z_jo rfl rfl (β:=Va.z) [.agg (CrdV.ss ⟨tn,us,sc,gn,rA,l.length,rc,rv⟩)] 0 [] [oldF w] rfl rfl (z_aw rfl) ?_
 refine z_af (fun β w' hs=>z_oq w' tn ht) ?_
 show _
 generalize plainF tn.data.toList=b
 cases b with
 | false=>
  intro β w' hs
  exact (hs.keepB (List.nil_sublist _)).fin [] ⟨rfl,rfl⟩
 | true=>
  refine z_af (fun β w' hs=>z_uy w' rA l rc (Rd.old hr (hs.get 0 rfl)) hn hs_) ?_
  intro β w' hs
  exact (hs.keepB (List.nil_sublist _)).fin [] ⟨by show Value.bool (!!allPl l)=_;rw [Bool.not_not];rfl,rfl⟩
def risB (l:List ByteArray):Bool:=decide (l.Pairwise tlt)&&decide (l.length<=8)
theorem z_sv (w:World) (A:Option Addr) (l:List ByteArray) (c:Nat) (hr:Rd 1 A l.length (strs l) w) (hn:l.length<=1000000):
  Pu Tryz.prog z_iA #[.slice A l.length c] w (.bool (risB l)):=by
 have g:=z_ki w (Un [])
 refine z_ad (cx:=z_ex w (Un [])) g z_mN rfl rfl (β:=Va.z) [.c (.v (.slice A l.length c))] 0 [] [oldF w] rfl rfl (z_aw rfl) ?_
 refine z_ai 0 (fun i:Nat=>[(0,.c (.v (.slice A l.length c))),(5,.c (.v (.int .i64 l.length))),(6,.c (.v (.int .i64 (i:Int))))]) (fun _=>[]) (fun _=>[oldF w])
  (fun i=>i<=l.length/\(l.take i).Pairwise tlt) (fun i=>l.length - i) 0 ⟨Nat.zero_le _,List.Pairwise.nil⟩ (Ent.same ⟨rfl,rfl,rfl,trivial⟩ rfl) g ?_
 rintro i ⟨hi,hpre⟩
 refine BIf.dec (fun hlt=>?_) (fun hge=>?_)
 ·have hlt0:(i:Int)<l.length:=hlt
  obtain ⟨y,hy,hym⟩:=at_lt (show i<l.length by omega)
  obtain ⟨ad,hA,_⟩:=hr.2 (by omega)
  refine z_ak g z_k1 (by kernel_rfl) [] [oldF w] (subPerm [0]) ?_
  have hld: ∀ {β:Va} {n:Nat} {H:List Bk} {w':World},Sat (z_ex w (Un [])) β n H [oldF w] w'-> ∀k z,l[k]?=some z->w'.cell? (ad.add (k*1))=some (.string z):=fun hs k z hz=>Rd.cell1 (by have h:=Rd.old hr (hs.get 0 rfl);rw [hA] at h;exact h) (by simp [strs,hz])
  refine BIf.dec (fun hpos=>?_) (fun hpos=>?_)
  ·have hpos0:(0:Int)<(i:Int):=hpos
   obtain ⟨z,hz,hzm⟩:=at_lt (show i - 1<l.length by omega)
   refine ⟨((i - 1:Nat):Int),by rw [wrap_i64 (by omega) (by omega)];omega,?_⟩
   refine ⟨ad,i - 1,hA,rfl,by omega,.string z,fun β w' hs=>hld hs _ _ hz,?_⟩
   refine ⟨ad,i,hA,rfl,by omega,.string y,fun β w' hs=>hld hs _ _ hy,?_⟩
   obtain ⟨b,hb⟩: ∃b,Op.bytesLess z.toList y.toList=b:=⟨_,rfl⟩
   have hb2:=hb
   rw [z_gY] at hb2
   conv=>whnf
   rw [hb]
   cases b with
   | true=>
    have hzy:=of_decide_eq_true hb2
    refine ⟨((i+1:Nat):Int),by rw [wrap_i64 (by omega) (by omega)];rfl,?_⟩
    refine ⟨i+1,⟨by omega,?_⟩,by omega,Ent.same ⟨rfl,rfl,rfl,trivial⟩ rfl⟩
    rw [List.take_add_one,hy]
    refine List.pairwise_append.2 ⟨hpre,List.pairwise_singleton _ _,fun a ha b hb=>?_⟩
    obtain rfl:=List.mem_singleton.1 hb
    obtain ⟨k,hk⟩:=List.mem_iff_getElem?.1 ha
    have hki:k<i:=by have:=(List.getElem?_eq_some_iff.1 hk).1;rw [List.length_take] at this;omega
    rcases Nat.lt_or_ge k (i - 1) with h | h
    ·exact z_b8 (z_nP hpre h hk (by rw [List.getElem?_take,if_pos (by omega)];exact hz)) hzy
    ·obtain rfl:k=i - 1:=by omega
     rw [List.getElem?_take,if_pos hki,hz] at hk
     obtain rfl:=Option.some.inj hk
     exact hzy
   | false=>
    have hzy:=of_decide_eq_false hb2
    intro β w' hs
    refine hs.fin [] ⟨?_,rfl⟩
    unfold risB
    rw [decide_eq_false (fun q=>hzy (z_nP q (show i - 1<i by omega) hz hy))]
    rfl
  ·have hpos0: ¬(0:Int)<(i:Int):=hpos
   obtain rfl:i=0:=by omega
   refine ⟨1,by rw [wrap_i64 (by omega) (by omega)];rfl,?_⟩
   exact ⟨1,⟨by omega,by rw [List.take_add_one,hy];exact List.pairwise_singleton _ _⟩,by omega,Ent.same ⟨rfl,rfl,rfl,trivial⟩ rfl⟩
 ·have hge0: ¬(i:Int)<l.length:=hge
  rw [List.take_of_length_le (by omega)] at hpre
  intro β w' hs
  refine hs.fin [] ⟨?_,rfl⟩
  show Value.bool (decide ((l.length:Int)<=8))=_
  unfold risB
  rw [decide_eq_true hpre,Bool.true_and]
  congr 1
  exact decide_eq_decide.2 (by omega)
end Go.Proofs.YtloeaiafphkjnaaGreatDoor.Sx
namespace Go.Proofs.YtloeaiafphkjnaaGreatDoor.Sx
open Go
section
variable {cx:Cx} {n:Nat} {H:List Bk} {F:List Fact} {w:World}
theorem z_nO {f:FuncId} {fn:Func} {c:Code} {R:Value->World->Prop} (g:Good cx) (hf:cx.P.funcs[f]?=some fn) (hb:fn.body=some c) (hN:fn.ntmps=cx.N)
  {β:Va} (svs:List SV) (n:Nat) (H:List Bk) (F:List Fact) (hlen:Nat.ble svs.length cx.N=true) (hltB:allLt n svs=true) (hs:Sat cx β n H F w)
  (hw:Tri cx c (fnPost cx fn.results.toList R) n (pairs 0 svs) H F) (hr:cx.rnd=none:=by rfl) (hm:β.marks=[]:=by rfl) (hp0:cx.pn=[]:=by rfl):
  Calls cx.P f (svs.map (SV.val β)).toArray w fun e w'=> ∃v,e= .returned v/\R v w':=by
 have hfe:cx.fence=Fence.wide:=by unfold Cx.fence;rw [hr]
 refine (callsIn_wide (n:=0)).1 (callsIn_of_wp_marks hf hb trivial ?_)
 have hlt:=z_ld hltB
 have hlen':svs.length<=cx.N:=Nat.le_of_ble_eq_true hlen
 have hi:Inv cx β n (pairs 0 svs) H F {tmps:=(svs.map (SV.val β)).toArray++Array.replicate (fn.ntmps - (svs.map (SV.val β)).toArray.size) undef,defers:=[]} w:=by
  refine ⟨fun t s ht=>?_,?_,by rw [hm];rfl,fun t s ht=>?_,hs⟩
  ·obtain ⟨j,rfl,hj⟩:=z_gG svs 0 t s ht
   have hjl:j<svs.length:=(List.getElem?_eq_some_iff.1 hj).1
   rw [Array.getElem?_append_left (by simp;omega)]
   simp [hj]
  ·simp [hN];omega
  ·obtain ⟨j,rfl,hj⟩:=z_gG svs 0 t s ht
   exact hlt s (List.mem_of_getElem? hj)
 have h0:=hw.run β _ w hi
 rw [hfe] at h0
 refine wpIn_mono h0 fun e a' w' hq=>?_
 have key:After cx (RetWP cx fn.results.toList R) a' w'->LeavesInM Fence.wide 0 cx.P fn a'.tmps (fun e w'=> ∃v,e= .returned v/\R v w') a'.defers .returning w':=by
  rintro ⟨β',n',env',H',F',h',hp⟩
  rw [<-hfe]
  have hd:=h'.df
  obtain ⟨tmps,defers⟩:=a'
  simp only at hd
  subst hd
  exact z_lB g hr hp0 _ β' w' rfl h' hp
 cases e with
 | normal=>exact key hq
 | ret=>exact key hq
 | exit id=>obtain ⟨_,_,_,_,_,_,hq⟩:=hq;exact hq.elim
 | goto l=>obtain ⟨_,_,_,_,_,_,hq⟩:=hq;exact hq.elim
 | panic ch=>exact hq.elim
 | outgrown=>exact hq.elim
theorem z_dt {f:FuncId} {fn:Func} {c:Code} {Gs:List Fact} {R:Value->List Fact->Prop} (g:Good cx) (hf:cx.P.funcs[f]?=some fn) (hb:fn.body=some c) (hN:fn.ntmps=cx.N)
  {β:Va} (svs:List SV) (n:Nat) (H:List Bk) (F:List Fact) (hlen:Nat.ble svs.length cx.N=true) (hltB:allLt n svs=true) (hs:Sat cx β n H F w)
  (hw:Tri cx c (fnPost cx fn.results.toList (Fin w Gs R)) n (pairs 0 svs) H F) (hr:cx.rnd=none:=by rfl) (hm:β.marks=[]:=by rfl) (hp0:cx.pn=[]:=by rfl):
  Con cx.P f (svs.map (SV.val β)).toArray w Gs R:=z_nO g hf hb hN svs n H F hlen hltB hs hw hr hm hp0
theorem z_an (g:Good cx) {c1 c2:Code} {Q:Exit->KT} {env:Env} (h:cwp cx c1 (andThen (fun n env H F=>Tri cx c2 Q n env H F) Q) n env H F):Tri cx (.seq c1 c2) Q n env H F:=by
 refine ⟨fun β a w hi=>wpIn_seq (wpIn_mono ((z_aS g c1 _ n env H F h).run β a w hi) fun e a w hq=>?_)⟩
 cases e with
 | normal=>
  obtain ⟨β',n',env',H',F',h',hq'⟩:=hq
  exact hq'.run β' a w h'
 | exit i=>exact hq
 | goto l=>exact hq
 | ret=>exact hq
 | panic c=>exact hq
 | outgrown=>exact hq
theorem z_fI (g:Good cx) {c:Code} {Q:Exit->KT} {env:Env} (h:cwp cx c Q n env H F):Tri cx c Q n env H F:=z_aS g c Q n env H F h
end
theorem z_b3 {cx:Cx} {n:Nat} {H:List Bk} {F:List Fact} {ι:Type} (g:Good cx) {c1 c2:Code} {Q:Exit->KT} {env:Env} (T:ι->Prop) (n':Nat) (E:ι->Env) (HH:ι->List Bk) (FF:ι->List Fact) (hkey: ∀i,T i->Tri cx c2 Q n' (E i) (HH i) (FF i))
  (h:cwp cx c1 (andThen (fun n env H F=>EntX cx n env H F T n' E HH FF) Q) n env H F):Tri cx (.seq c1 c2) Q n env H F:=by
 refine ⟨fun β a w hi=>wpIn_seq (wpIn_mono ((z_aS g c1 _ n env H F h).run β a w hi) fun e a w hq=>?_)⟩
 cases e with
 | normal=>
  obtain ⟨β',n',env',H',F',h',hq'⟩:=hq
  exact (z_ft T _ E HH FF hkey hq').run β' a w h'
 | exit i=>exact hq
 | goto l=>exact hq
 | ret=>exact hq
 | panic c=>exact hq
 | outgrown=>exact hq
end Go.Proofs.YtloeaiafphkjnaaGreatDoor.Sx
namespace Go.Proofs.YtloeaiafphkjnaaGreatDoor.Sx
open Go
theorem z_ug {cx:Cx} {c:Code} {Q:Exit->KT} {n:Nat} {env:Env} {H:List Bk} {F F':List Fact} (hS: ∀β w,Sat cx β n H F w->Sat cx β n H F' w) (h:Tri cx c Q n env H F'):Tri cx c Q n env H F:=
 ⟨fun β a w hi=>h.run β a w ⟨hi.ag,hi.size,hi.df,hi.lte,hS β w hi.sat⟩⟩
theorem z_qO {cx:Cx} {c:Code} {Q:Exit->KT} {n:Nat} {env:Env} {H:List Bk} {F:List Fact} (id:Nat) {ty:TypeId} {cs:List SL} (vs:Nat->List Value) (h1:tyAt H id=some ty) (h2:cellsAt H id=some cs) (h3: ∀b,allV (cs.map (SL.re id b))=some (vs b))
  (h: ∀b,Tri cx c Q n (envRe id b env) (bksRe id b H) (bkF b ty (vs b)::F)):Tri cx c Q n env H F:=
 z_ft (ι:=Nat) (fun _=>True) n (fun b=>envRe id b env) (fun b=>bksRe id b H) (fun b=>bkF b ty (vs b)::F) (fun b _=>h b) (EntX.reify id vs h1 h2 h3 (fun b=>EntX.of b trivial ⟨fun β a w hi=>⟨β,rfl,rfl,hi⟩⟩))
end Go.Proofs.YtloeaiafphkjnaaGreatDoor.Sx
namespace Go.Proofs.YtloeaiafphkjnaaGreatDoor.Sx
open Go
attribute [local irreducible] Calls
def crRd (c:Crd):Fact where
 own:=false
 D:=fun k=>(secF c.sec.x c.sec.a).D k\/(rdF 1 c.rA c.roles.length (strs c.roles)).D k
 p:=fun w=>SRd c.sec.x c.sec.a w/\Rd 1 c.rA c.roles.length (strs c.roles) w
 st:=fun w w' hs h=>⟨(secF c.sec.x c.sec.a).st w w' (fun k hk=>hs k (.inl hk)) h.1,(rdF 1 c.rA c.roles.length (strs c.roles)).st w w' (fun k hk=>hs k (.inr hk)) h.2⟩
def loadA (X:ASto) (c:ACrd):Int×ASto:=
 if (plainF c.tenant.data.toList&&allPl c.roles)=false then (5,X)
 else if¬((nameA c.user).2=0/\(nameA c.user).1=c.user/\risB c.roles=true/\rightA c.sec=true/\1<=c.gen/\c.gen<=greatN) then (4,X)
 else match aten X.ts c.tenant with
  | none=>if 8<=X.ts.length then (8,X) else (0,{X with ts:=X.ts++[(c.tenant,[c])],last:=max X.last c.gen})
  | some us=>if (ausr us c.user).isSome then (7,X) else if 32<=us.length then (8,X) else (0,{X with ts:=atenU X.ts c.tenant (fun us=>us++[c]),last:=max X.last c.gen})
def LdP (S:Sto) (c:Crd):Option (List Ten×Ten×List Ten)->Prop
 | some (A,T,B)=>S.ts=A++T::B/\mlook T.m c.user=none/\ ∀cr:Crd,cr.a=c.a->loadA S.a c.a=(0,(Sto.a {S with ts:=A++ {T with us:=T.us++[cr]}::B,last:=max S.last c.gen}))
 | none=>mlook S.ml c.tenant=none/\loadA S.a c.a=(0,{S.a with ts:=S.a.ts++[(c.tenant,[c.a])],last:=max S.last c.gen})
structure LdJ where
 S:Sto
 A:List Ten
 T:Ten
 B:List Ten
structure LdJ.Ok (j:LdJ) (S:Sto) (c:Crd):Prop where
 ts:j.S.ts=j.A++j.T::j.B
 b:j.S.b=S.b
 last:j.S.last=S.last
 no:mlook j.T.m c.user=none
 res: ∀cr:Crd,cr.a=c.a->loadA S.a c.a=(0,(Sto.a {j.S with ts:=j.A++ {j.T with us:=j.T.us++[cr]}::j.B,last:=max S.last c.gen}))
def z_rd:Plan:= .take 0 (.take 1 (.take 2 (.take 3 (.take 4 (.take 5 (.take 6 (.brk 7 .done)))))))
def z_rk:Plan:= .take 0 (.take 1 (.take 2 (.take 3 (.take 5 (.take 6 (.exec 4 (.take 7 (.exec 8 (.take 9 (.brk 10 .done))))))))))
set_option maxHeartbeats 1000000 in
theorem z_vQ (w:World) (S:Sto) (c:Crd) (ht:c.tenant.size<=100000) (hu:c.user.size<=100000) (hrs: ∀r∈c.roles,r.size<=100000) (hrl:c.roles.length<=100000) (hz:CSz c.a) (hm:Mem w [stoF S,crRd c,namF]):
  Con Tryz.prog z_eV #[ptr S.b,.agg c.vs.toArray] w [stoF S] (stoOut S (loadA S.a c.a)):=by
 have g:=z_hh w (Un [stoF S])
 have hrd:=hm.fact (crRd c) (by simp)
 have hri:rightN c.sec.x=rightA c.sec.a:=hrd.1.right
 refine z_dt (cx:=z_b1 w (Un [stoF S])) g z_jk rfl rfl (β:=Va.z) [.c (.v (ptr S.b)),.agg c.ss] 0 [] [stoF S,crRd c,namF] rfl rfl (hm.sat0 rfl (ownIn (Gs:=[stoF S]) (fun f hf=>by
  simp only [List.mem_cons,List.not_mem_nil,or_false] at hf
  rcases hf with rfl | rfl<;>rfl))) ?_
 obtain ⟨p,e,hpe⟩: ∃p e,nameA c.user=(p,e):=⟨_,_,rfl⟩
 refine z_an g ?_
 refine z_an g ?_
 refine z_an g ?_
 refine z_af (v:= .tuple #[.string p,.int .i64 e]) (fun β w' hs=>by
  have h:=z_ux w' c.user hu (z_vK (hs.get 2 rfl))
  rw [hpe] at h
  exact h) ?_
 refine z_an g ?_
 refine z_af (fun β w' hs=>z_mV w' S c.tenant (hs.get 0 rfl) (hs.getLt 0 rfl)) ?_
 refine z_b3 (ι:=Option (List Ten×Ten×List Ten)) g (LdP S c) 1 (fun i=>[(0,.c (.v (ptr S.b))),(3,.c (.p 0 0)),(5,.c (.v (.string c.user))),(7,.c (.v (match i with | some x=> .map (some x.2.1.b) | none=> .map none)))]) (fun _=>[⟨0,z_ao,c.ss⟩]) (fun _=>[stoF S,crRd c,namF]) ?_ ?_
 rotate_left
 ·refine z_af (fun β w' hs=>z_s3 w' ⟨c.tenant,c.user,c.sec.x,c.gen,c.rA,c.roles.length,c.rc,c.revoked⟩ c.roles ht rfl (show SRd _ _ w'/\_ from hs.get 1 rfl).2 (by omega) hrs) ?_
  show _
  generalize hpl:(plainF c.tenant.data.toList&&allPl c.roles)=bp
  cases bp with
  | false=>
   intro β w' hs
   exact (hs.keepB (List.nil_sublist _)).fin [0] (z_a2 (by unfold loadA;rw [if_pos (show (plainF c.a.tenant.data.toList&&allPl c.a.roles)=false from hpl)]))
  | true=>
  have hld:loadA S.a c.a=if¬(e=0/\p=c.user/\risB c.roles=true/\rightA c.sec.a=true/\1<=c.gen/\c.gen<=greatN) then ((4,S.a):Int×ASto) else match aten S.a.ts c.tenant with
    | none=>if 8<=S.a.ts.length then (8,S.a) else (0,{S.a with ts:=S.a.ts++[(c.tenant,[c.a])],last:=max S.last c.gen})
    | some us=>if (ausr us c.user).isSome then (7,S.a) else if 32<=us.length then (8,S.a) else (0,{S.a with ts:=atenU S.a.ts c.tenant (fun us=>us++[c.a]),last:=max S.last c.gen}):=by
   unfold loadA
   rw [if_neg (show¬(plainF c.a.tenant.data.toList&&allPl c.a.roles)=false from by show¬(plainF c.tenant.data.toList&&allPl c.roles)=false;rw [hpl];decide)]
   rw [show nameA c.a.user=(p,e) from hpe]
   rfl
  have bad: ∀(h: ¬(e=0/\p=c.user/\risB c.roles=true/\rightA c.sec.a=true/\1<=c.gen/\c.gen<=greatN)),loadA S.a c.a=(4,S.a):=fun h=>by rw [hld,if_pos h]
  have badF: ∀(h: ¬(e=0/\p=c.user/\risB c.roles=true/\rightA c.sec.a=true/\1<=c.gen/\c.gen<=greatN)) {β:Va} {n:Nat} {H:List Bk} {w':World},Sat (z_b1 w (Un [stoF S])) β n H [stoF S,crRd c,namF] w'->Fin w [stoF S] (stoOut S (loadA S.a c.a)) (.int .i64 4) w':=
   fun h β n H w' hs=>(hs.keepB (List.nil_sublist _)).fin [0] (z_a2 (bad h))
  refine BIf.not (BIf.dec (fun he=>?_) (fun he=>?_))
  rotate_left
  ·have he0: ¬e=0:=he
   intro β w' hs
   exact badF (fun h=>he0 h.1) hs
  have he0:e=0:=he
  refine BIf.not (BIf.dec (fun hpu=>?_) (fun hpu=>?_))
  rotate_left
  ·have hpu0: ¬p=c.user:=hpu
   intro β w' hs
   exact badF (fun h=>hpu0 h.2.1) hs
  have hpu0:p=c.user:=hpu
  refine z_af (fun β w' hs=>z_sv w' c.rA c.roles c.rc (show SRd _ _ w'/\_ from hs.get 1 rfl).2 (by omega)) ?_
  generalize hrb:risB c.roles=rb at badF
  cases rb with
  | false=>
   intro β w' hs
   exact badF (fun h=>by cases h.2.2.1) hs
  | true=>
  refine z_af (fun β w' hs=>z_tz w' c.sec.x) ?_
  rw [hri]
  generalize hrr:rightA c.sec.a=rr at badF
  cases rr with
  | false=>
   intro β w' hs
   exact badF (fun h=>by cases h.2.2.2.1) hs
  | true=>
  obtain ⟨gi,hgi⟩: ∃gi:Int,(c.gen:Int)=gi:=⟨_,rfl⟩
  refine BIf.dec (fun h1=>?_) (fun h1=>?_)
  ·have h10:(c.gen:Int)<1:=h1
   intro β w' hs
   exact badF (fun h=>by omega) hs
  have h10: ¬(c.gen:Int)<1:=h1
  refine BIf.dec (fun h2=>?_) (fun h2=>?_)
  ·have h20:(9007199254740992:Int)<(c.gen:Int):=h2
   intro β w' hs
   exact badF (fun h=>by have:=h.2.2.2.2.2;unfold greatN at this;omega) hs
  have h20: ¬(9007199254740992:Int)<(c.gen:Int):=h2
  rw [if_neg (fun h=>h ⟨he0,hpu0,hrb,hrr,by omega,by unfold greatN;omega⟩)] at hld
  clear bad badF
  subst hpu0
  rcases z_g4 c.tenant S.ts with ⟨A,T,B,eT,h0,hna,hlk,hat,hup,_⟩ | ⟨hlk,hat,hte⟩
  ·rw [h0]
   rw [show aten S.a.ts c.tenant=_ from hat] at hld
   refine ⟨.pointer none,fun w=>z_kZ w,T.m,mlook T.m c.user,fun β w' hs=>z_mO (z_lb (hs.get 0 rfl) eT),rfl,?_⟩
   rcases z_mE c.user T.us with ⟨U,c2,V,eU,q0,q1,q2,q3,_⟩ | ⟨q1,q2,q3⟩
   ·rw [show mlook T.m c.user=_ from q2]
    have hld2:loadA S.a c.a=(7,S.a):=by rw [hld];exact if_pos (by rw [show ausr (T.us.map Crd.a) c.user=_ from q3];rfl)
    intro β w' hs
    exact (hs.keepB (List.nil_sublist _)).fin [0] (z_a2 hld2)
   rw [show mlook T.m c.user=_ from q1]
   have hml:T.m.length=(T.us.map Crd.a).length:=by simp [Ten.m]
   have hau: ¬(ausr (T.us.map Crd.a) c.user).isSome=true:=by rw [show ausr (T.us.map Crd.a) c.user=none from q2];simp
   refine ⟨T.m,fun β w' hs=>z_mO (z_lb (hs.get 0 rfl) eT),?_⟩
   refine BIf.dec (fun hf=>?_) (fun hf=>?_)
   ·have hf0:(32:Int)<=(T.m.length:Int):=hf
    have hld2:loadA S.a c.a=(8,S.a):=by rw [hld];show (if _ then _ else if _ then _ else _)=_;rw [if_neg hau,if_pos (by omega)]
    intro β w' hs
    exact (hs.keepB (List.nil_sublist _)).fin [0] (z_a2 hld2)
   have hf0: ¬(32:Int)<=(T.m.length:Int):=hf
   have hld2:loadA S.a c.a=(0,{S.a with ts:=atenU S.a.ts c.tenant (fun us=>us++[c.a]),last:=max S.last c.gen}):=by rw [hld];show (if _ then _ else if _ then _ else _)=_;rw [if_neg hau,if_neg (by omega)]
   refine EntX.of (some (A,T,B)) ⟨eT,q1,fun cr hcr=>?_⟩ (Ent.mk' ⟨rfl,rfl,rfl,rfl,trivial⟩ rfl (fun β w' hs=>hs))
   rw [hld2]
   have k8:=hup {T with us:=T.us++[cr]} (fun us=>us++[c.a]) hna (by rw [List.map_append];show _++[cr.a]=_;rw [hcr])
   show _=(0,ASto.mk _ _ _)
   rw [k8]
   rfl
  ·rw [hte]
   rw [show aten S.a.ts c.tenant=none from hat] at hld
   refine ⟨.pointer none,fun w=>z_kZ w,?_⟩
   have hl:=z_t9 S
   refine ⟨.map (some S.m),fun β w' hs=>bkc (z_iQ (hs.get 0 rfl)) rfl,?_⟩
   refine ⟨S.ml,fun β w' hs=>z_kV (hs.get 0 rfl),?_⟩
   refine BIf.dec (fun hf=>?_) (fun hf=>?_)
   ·have hf0:(8:Int)<=(S.ml.length:Int):=hf
    have hld2:loadA S.a c.a=(8,S.a):=by rw [hld];show (if _ then _ else _)=_;rw [if_pos (by omega)]
    intro β w' hs
    exact (hs.keepB (List.nil_sublist _)).fin [0] (z_a2 hld2)
   have hf0: ¬(8:Int)<=(S.ml.length:Int):=hf
   have hld2:loadA S.a c.a=(0,{S.a with ts:=S.a.ts++[(c.tenant,[c.a])],last:=max S.last c.gen}):=by rw [hld];show (if _ then _ else _)=_;rw [if_neg (by omega)]
   exact EntX.of none ⟨hlk,hld2⟩ (Ent.mk' ⟨rfl,rfl,rfl,rfl,trivial⟩ rfl (fun β w' hs=>hs))
 intro i hi
 refine z_b3 (ι:=LdJ) g (fun j=>j.Ok S c) 1 (fun j=>[(0,.c (.v (ptr S.b))),(3,.c (.p 0 0)),(5,.c (.v (.string c.user))),(7,.c (.v (.map (some j.T.b))))]) (fun _=>[⟨0,z_ao,c.ss⟩]) (fun j=>[stoF j.S,crRd c,namF]) ?_ ?_
 rotate_left
 ·rcases i with _ | ⟨A,T,B⟩
  ·obtain ⟨hlk,hres⟩:=hi
   intro mb
   refine z_ak g z_rd (by kernel_rfl) [⟨0,z_ao,c.ss⟩] [stoF S] (subPerm [1]) ?_
   refine ⟨.map (some S.m),fun β w' hs=>bkc (z_iQ (hs.get 0 rfl)) rfl,?_⟩
   refine ⟨[⟨0,z_ao,c.ss⟩],fun _=>[stoF {S with ts:=S.ts++[⟨mb,c.tenant,[]⟩]},crRd c,namF],fun β w' hs=>?_,fun _=>?_⟩
   ·have q1:=hs.unsep 1 rfl
    obtain ⟨w2,q2,q3⟩:=q1.mapPut g 1 rfl (t:=z_aD) c.tenant (.map (some mb))
    rw [z_kw hlk] at q3
    exact ⟨w2,0,q2,q3.recut [0,1,2,3] z_pj⟩
   refine EntX.of ⟨{S with ts:=S.ts++[⟨mb,c.tenant,[]⟩]},S.ts,⟨mb,c.tenant,[]⟩,[]⟩ ⟨rfl,rfl,rfl,rfl,fun cr hcr=>?_⟩ (Ent.mk' ⟨rfl,rfl,rfl,rfl,trivial⟩ rfl (fun β w' hs=>hs))
   have e:(S.ts++[(⟨mb,c.tenant,[cr]⟩:Ten)]).map Ten.a=S.a.ts++[(c.tenant,[c.a])]:=by
    rw [List.map_append]
    show S.a.ts++[(c.tenant,[cr.a])]=_
    rw [hcr]
   rw [hres]
   show _=((0:Int),ASto.mk ((S.ts++[(⟨mb,c.tenant,[cr]⟩:Ten)]).map Ten.a) _ _)
   rw [e]
   rfl
  ·obtain ⟨h1,h2,h3⟩:=hi
   exact EntX.of ⟨S,A,T,B⟩ ⟨h1,rfl,rfl,h2,h3⟩ (Ent.mk' ⟨rfl,rfl,rfl,rfl,trivial⟩ rfl (fun β w' hs=>hs))
 rintro ⟨S2,A,T,B⟩ ⟨eT,hb,hl,hno,hres⟩
 simp only at eT hb hl hno hres
 refine z_an g ?_
 refine z_ac [] (fun β w' hs=>z_r3 w' c (show SRd c.sec.x c.sec.a w'/\Rd 1 c.rA c.roles.length (strs c.roles) w' from hs.get 1 rfl).1 (show SRd c.sec.x c.sec.a w'/\Rd 1 c.rA c.roles.length (strs c.roles) w' from hs.get 1 rfl).2 hz) ?_
 rintro v Fs ⟨c2,hc2,rfl,rfl⟩
 refine z_fI g ?_
 have hcr: ∀yb,({c2 with b:=yb}:Crd).a=c.a:=fun _=>hc2
 have hcu: ∀yb,({c2 with b:=yb}:Crd).user=c.user:=fun _=>congrArg ACrd.user hc2
 refine ⟨[⟨0,z_ao,c.ss⟩],fun yb=>[bkF S2.b z_ay S2.vs,bkF yb z_ao ({c2 with b:=yb}:Crd).vs,sepF ({c2 with b:=yb}:Crd).parts,mapF T.b (T.m++[(c.user,ptr yb)]),sepF (T.us.map crdF),mapF S2.m S2.ml,sepF ((A++B).map tenF),crRd c,namF],fun β w' hs=>?_,fun yb=>?_⟩
 ·have k1:=hs.ofBk
  have k2:=k1.strsRow 1 rfl
  have k3:=k2.sep [1,5,4,3,2] rfl ⟨rfl,rfl,rfl,rfl,rfl,trivial⟩
  have k4:=k3.recut [2] (z_r9 eT) rfl rfl ⟨rfl,trivial⟩ ⟨rfl,rfl,rfl,rfl,rfl,trivial⟩
  obtain ⟨w2,k5,k6⟩:=k4.mapPut g 1 rfl (t:=z_bl) c.user (ptr (β 1))
  rw [z_kw hno] at k6
  exact ⟨w2,β 1,k5,k6.perm [0,6,5,1,2,3,4,7,8]⟩
 obtain ⟨ny,hny⟩: ∃ny:Int,((max S2.last c.gen:Nat):Int)=ny:=⟨_,rfl⟩
 refine z_ak g z_rk (by kernel_rfl) [⟨0,z_ao,c.ss⟩] [bkF S2.b z_ay S2.vs] (subPerm [0]) ?_
 refine ⟨.int .u64 (S2.last:Int),fun β w' hs=>by rw [<-hb];exact bkc (hs.get 0 rfl) rfl,?_⟩
 refine ⟨subPerm [0],?_⟩
 refine ⟨ny,by show max (S2.last:Int) (c.gen:Int)=ny;rw [<-hny];omega,?_⟩
 refine ⟨subPerm [0],?_⟩
 refine ⟨[bkF S2.b z_ay [.map (some S2.m),.int .u64 ny,.int .u64 S2.reads],bkF yb z_ao ({c2 with b:=yb}:Crd).vs,sepF ({c2 with b:=yb}:Crd).parts,mapF T.b (T.m++[(c.user,ptr yb)]),sepF (T.us.map crdF),mapF S2.m S2.ml,sepF ((A++B).map tenF),crRd c,namF],fun β w' hs=>by rw [<-hb];exact hs.bkSet 0 (o:=1) (us:=[.int .u64 ny]) rfl (by show 2<=3;decide) (fun u hu=>by obtain rfl:=List.mem_singleton.1 hu;rfl),?_⟩
 intro β w' hs
 rw [<-hny] at hs
 have k:=(hs.keepB (List.nil_sublist _)).recut [0,1,2,3,4,5,6] (z_ss (S:=S2) (c:= {c2 with b:=yb}) (last:=max S2.last c.gen) eT (hcu yb)) rfl rfl ⟨rfl,rfl,rfl,rfl,rfl,rfl,rfl,trivial⟩
 have hr:=hres {c2 with b:=yb} (hcr yb)
 refine k.fin [0] ⟨{S2 with ts:=A++ {T with us:=T.us++[{c2 with b:=yb}]}::B,last:=max S2.last c.gen},by rw [hr];rfl,?_,hb,rfl⟩
 rw [hr,hl]
theorem Rd.cutN {size:Nat} {w:World} {A:Option Addr} {xs:List Value} {n:Nat} (h:Rd size A n xs w) {c i j:Nat} (hn:n<=c) (hij:i<=j) (hj:j<=n):Rd size (cutA A c i size) (j - i) ((xs.drop (i*size)).take ((j - i)*size)) w:=by
 have hl:=h.1
 have hle:i*size+(j - i)*size<=n*size:=by rw [<-Nat.add_mul];exact Nat.mul_le_mul_right _ (by omega)
 refine ⟨by rw [List.length_take,List.length_drop];omega,fun hp=>?_⟩
 obtain ⟨ad,rfl,hc⟩:=h.2 (by omega)
 have hne: ¬c=i:=by omega
 refine ⟨ad.add (i*size),by simp [cutA,hne],fun k u hk=>?_⟩
 rw [z_ky]
 refine hc (i*size+k) u ?_
 rw [<-hk]
 have hkl:k<(j - i)*size:=by
  have:=(List.getElem?_eq_some_iff.1 hk).1
  rw [List.length_take] at this
  omega
 rw [List.getElem?_take,if_pos hkl,List.getElem?_drop]
theorem z_r6 {l:List ByteArray} {i:Nat} {x y:ByteArray} (hy:l[i]?=some y) (h:hasT (l.take i) x=false) (hne: ¬y=x):hasT (l.take (i+1)) x=false:=by
 refine z_u8 fun q=>?_
 rw [List.take_add_one,hy] at q
 rcases List.mem_append.1 q with q | q
 ·rw [hasT_iff.2 q] at h;cases h
 ·exact hne (List.mem_singleton.1 q).symm
theorem inT_c (w:World) (A:Option Addr) (l:List ByteArray) (c:Nat) (x:ByteArray) (hr:Rd 1 A l.length (strs l) w) (hn:l.length<=1000000):
  Pu Tryz.prog z_eS #[.slice A l.length c,.string x] w (.bool (hasT l x)):=by
 have g:=z_ho w (Un [])
 refine z_ad (cx:=z_d6 w (Un [])) g z_jF rfl rfl (β:=Va.z) [.c (.v (.slice A l.length c)),.c (.v (.string x))] 0 [] [oldF w] rfl rfl (z_aw rfl) ?_
 refine z_ai 0 (fun i:Nat=>[(1,.c (.v (.string x))),(7,.c (.v (.slice A l.length c))),(8,.c (.v (.int .i64 l.length))),(9,.c (.v (.int .i64 (i:Int))))]) (fun _=>[]) (fun _=>[oldF w])
  (fun i=>i<=l.length/\hasT (l.take i) x=false) (fun i=>l.length - i) 0 ⟨Nat.zero_le _,rfl⟩ (Ent.same ⟨rfl,rfl,rfl,rfl,trivial⟩ rfl) g ?_
 rintro i ⟨hi,hpre⟩
 refine BIf.dec (fun hlt=>?_) (fun hge=>?_)
 ·have hlt0:(i:Int)<l.length:=hlt
  obtain ⟨y,hy,hym⟩:=at_lt (show i<l.length by omega)
  obtain ⟨ad,hA,_⟩:=hr.2 (by omega)
  refine ⟨ad,i,hA,rfl,by omega,.string y,fun β w' hs=>Rd.cell1 (by have h:=Rd.old hr (hs.get 0 rfl);rw [hA] at h;exact h) (by simp [strs,hy]),?_⟩
  refine BIf.dec (fun hxy=>?_) (fun hxy=>?_)
  ·have hxy0:y=x:=hxy
   intro β w' hs
   exact hs.fin [] ⟨by rw [hasT_iff.2 (hxy0▸hym)];rfl,rfl⟩
  ·have hxy0: ¬y=x:=hxy
   refine ⟨((i+1:Nat):Int),by rw [wrap_i64 (by omega) (by omega)];rfl,?_⟩
   exact ⟨i+1,⟨by omega,z_r6 hy hpre hxy0⟩,by omega,Ent.same ⟨rfl,rfl,rfl,rfl,trivial⟩ rfl⟩
 ·have hge0: ¬(i:Int)<l.length:=hge
  rw [List.take_of_length_le (by omega)] at hpre
  rw [hpre]
  intro β w' hs
  exact hs.fin [] ⟨rfl,rfl⟩
theorem put_c (w:World) (A:Option Addr) (l:List ByteArray) (c:Nat) (x:ByteArray) (hr:Rd 1 A l.length (strs l) w) (hn:l.length<=1000000) (hlc:l.length<=c) (hs:l.Pairwise tlt):
  Con Tryz.prog z_d8 #[.slice A l.length c,.string x] w [] fun v Fs=> ∃A' c',v= .slice A' (insT l (rank l x) x).length c'/\(insT l (rank l x) x).length<=c'/\Fs=[srowF A' (insT l (rank l x) x) c']:=by
 have g:=z_gJ w (Un [])
 have hml:=z_ag
 refine z_ad (cx:=z_dC w (Un [])) g z_il rfl rfl (β:=Va.z) [.c (.v (.slice A l.length c)),.c (.v (.string x))] 0 [] [oldF w] rfl rfl (z_aw rfl) ?_
 refine z_m5 (κ:=Nat) 0 (fun i=>i<=l.length/\rank l x=i) 0 (fun i=>[(0,.c (.v (.slice A l.length c))),(1,.c (.v (.string x))),(5,.c (.v (.int .i64 (i:Int))))]) (fun _=>[]) (fun _=>[oldF w]) ?_ ?_
 ·rintro i ⟨hi,hrk⟩
  rw [hrk]
  have hil:=z_sR (x:=x) hi
  have hsl:=z_s5 l
  have hA1: ∀w',(oldF w).p w'->Rd 1 (cutA A c 0 1) i ((strs l).take i) w':=fun w' ho=>by
   have h:=(Rd.old hr ho).cutN hlc (Nat.zero_le i) hi
   rw [Nat.sub_zero,Nat.zero_mul,List.drop_zero,Nat.mul_one] at h
   exact h
  have hA2: ∀w',(oldF w).p w'->Rd 1 (cutA A c i 1) (l.length - i) ((strs l).drop i) w':=fun w' ho=>by
   have h:=(Rd.old hr ho).cutN hlc hi (Nat.le_refl _)
   rw [Nat.mul_one,Nat.mul_one,List.take_of_length_le (by rw [List.length_drop];omega)] at h
   exact h
  refine z_ak g z_hn (by kernel_rfl) [] [oldF w] (subPerm [0]) ?_
  refine ⟨c,i,0,i,c,_,rfl,rfl,rfl,Nat.le_refl _,by omega,Nat.zero_le _,rfl,rfl,rfl,?_⟩
  refine ⟨c,l.length,i,l.length - i,c - i,_,rfl,rfl,rfl,Nat.le_refl _,by omega,hi,rfl,rfl,rfl,?_⟩
  refine ⟨?_,?_⟩
  ·intro b0
   refine ⟨subPerm [1],?_⟩
   refine ⟨?_,?_⟩
   ·refine ⟨0,0,i,[],(strs l).take i,(strs l).take i,rfl,fun β w' hs=>hA1 w' (hs.get 1 rfl),fun u hu=>z_ep l u (List.mem_of_mem_take hu),Nat.zero_add _,rfl,by omega,by show i*16<=_;omega,?_⟩
    intro A1 c1 p1 _ _
    refine ⟨subPerm [1],?_⟩
    intro b1
    refine ⟨subPerm [2],?_⟩
    refine ⟨1,i,i+1,(strs l).take i,[.string x],(strs l).take i++[.string x],rfl,fun β w' hs=>z_am (hs.get 0 rfl),(fun u hu=>by obtain rfl:=List.mem_singleton.1 hu;rfl),rfl,rfl,by omega,by show (i+1)*16<=_;omega,?_⟩
    intro A2 c2 p2 _ _
    refine ⟨subPerm [2],?_⟩
    refine ⟨1,i+1,l.length+1,(strs l).take i++[.string x],(strs l).drop i,strs (insT l i x),rfl,fun β w' hs=>hA2 w' (hs.get 2 rfl),fun u hu=>z_ep l u (List.mem_of_mem_drop hu),by omega,by rw [z_lu];simp,by omega,by show (l.length+1)*16<=_;omega,?_⟩
    intro A3 c3 p3 _ _
    refine ⟨subPerm [2],?_⟩
    intro β w' hs
    exact hs.fin [1] ⟨A3,c3,by rw [hil];rfl,by omega,by show _=[rowF z_ah 1 (.slice A3 (insT l i x).length c3) (insT l i x).length (strs (insT l i x))];rw [hil];rfl⟩
   ·intro b1
    refine ⟨subPerm [2],?_⟩
    refine ⟨1,0,i,[],(strs l).take i,(strs l).take i,rfl,fun β w' hs=>hA1 w' (hs.get 2 rfl),fun u hu=>z_ep l u (List.mem_of_mem_take hu),Nat.zero_add _,rfl,by omega,by show i*16<=_;omega,?_⟩
    intro A1 c1 p1 _ _
    refine ⟨subPerm [2],?_⟩
    refine ⟨1,i,i+1,(strs l).take i,[.string x],(strs l).take i++[.string x],rfl,fun β w' hs=>z_am (hs.get 0 rfl),(fun u hu=>by obtain rfl:=List.mem_singleton.1 hu;rfl),rfl,rfl,by omega,by show (i+1)*16<=_;omega,?_⟩
    intro A2 c2 p2 _ _
    refine ⟨subPerm [2],?_⟩
    refine ⟨1,i+1,l.length+1,(strs l).take i++[.string x],(strs l).drop i,strs (insT l i x),rfl,fun β w' hs=>hA2 w' (hs.get 2 rfl),fun u hu=>z_ep l u (List.mem_of_mem_drop hu),by omega,by rw [z_lu];simp,by omega,by show (l.length+1)*16<=_;omega,?_⟩
    intro A3 c3 p3 _ _
    refine ⟨subPerm [2],?_⟩
    intro β w' hs
    exact hs.fin [1] ⟨A3,c3,by rw [hil];rfl,by omega,by show _=[rowF z_ah 1 (.slice A3 (insT l i x).length c3) (insT l i x).length (strs (insT l i x))];rw [hil];rfl⟩
  ·intro b1
   refine ⟨subPerm [1],?_⟩
   intro b0
   refine ⟨subPerm [2],?_⟩
   refine ⟨0,0,i,[],(strs l).take i,(strs l).take i,rfl,fun β w' hs=>hA1 w' (hs.get 2 rfl),fun u hu=>z_ep l u (List.mem_of_mem_take hu),Nat.zero_add _,rfl,by omega,by show i*16<=_;omega,?_⟩
   intro A1 c1 p1 _ _
   refine ⟨subPerm [2],?_⟩
   refine ⟨0,i,i+1,(strs l).take i,[.string x],(strs l).take i++[.string x],rfl,fun β w' hs=>z_am (hs.get 1 rfl),(fun u hu=>by obtain rfl:=List.mem_singleton.1 hu;rfl),rfl,rfl,by omega,by show (i+1)*16<=_;omega,?_⟩
   intro A2 c2 p2 _ _
   refine ⟨subPerm [2],?_⟩
   refine ⟨0,i+1,l.length+1,(strs l).take i++[.string x],(strs l).drop i,strs (insT l i x),rfl,fun β w' hs=>hA2 w' (hs.get 2 rfl),fun u hu=>z_ep l u (List.mem_of_mem_drop hu),by omega,by rw [z_lu];simp,by omega,by show (l.length+1)*16<=_;omega,?_⟩
   intro A3 c3 p3 _ _
   refine ⟨subPerm [2],?_⟩
   intro β w' hs
   exact hs.fin [0] ⟨A3,c3,by rw [hil];rfl,by omega,by show _=[rowF z_ah 1 (.slice A3 (insT l i x).length c3) (insT l i x).length (strs (insT l i x))];rw [hil];rfl⟩
 refine z_ai 0 (fun i:Nat=>[(0,.c (.v (.slice A l.length c))),(1,.c (.v (.string x))),(5,.c (.v (.int .i64 (i:Int))))]) (fun _=>[]) (fun _=>[oldF w])
  (fun i=>i<=l.length/\ ∀k y,k<i->l[k]?=some y->tlt y x) (fun i=>l.length - i) 0 ⟨Nat.zero_le _,fun k y h=>absurd h (Nat.not_lt_zero _)⟩ (Ent.same ⟨rfl,rfl,rfl,trivial⟩ rfl) g ?_
 rintro i ⟨hi,hpre⟩
 refine BIf.dec (fun hlt=>?_) (fun hge=>?_)
 ·have hlt0:(i:Int)<l.length:=hlt
  obtain ⟨y,hy,hym⟩:=at_lt (show i<l.length by omega)
  obtain ⟨ad,hA,_⟩:=hr.2 (by omega)
  refine ⟨ad,i,hA,rfl,by omega,.string y,fun β w' hs=>Rd.cell1 (by have h:=Rd.old hr (hs.get 0 rfl);rw [hA] at h;exact h) (by simp [strs,hy]),?_⟩
  obtain ⟨b,hb⟩: ∃b,Op.bytesLess y.toList x.toList=b:=⟨_,rfl⟩
  have hb2:=hb
  rw [z_gY] at hb2
  conv=>whnf
  rw [hb]
  cases b with
  | true=>
   have hyx:=of_decide_eq_true hb2
   refine ⟨((i+1:Nat):Int),by rw [wrap_i64 (by omega) (by omega)];rfl,?_⟩
   refine ⟨i+1,⟨by omega,fun k z hk hz=>?_⟩,by omega,Ent.same ⟨rfl,rfl,rfl,trivial⟩ rfl⟩
   rcases Nat.lt_or_ge k i with h | h
   ·exact hpre k z h hz
   ·obtain rfl:k=i:=by omega
    rw [hy] at hz
    obtain rfl:=Option.some.inj hz
    exact hyx
  | false=>
   have hyx:=of_decide_eq_false hb2
   refine EntX.of i ⟨hi,z_qy hi hpre fun k z hk hz q=>?_⟩ (Ent.same ⟨rfl,rfl,rfl,trivial⟩ rfl)
   rcases Nat.lt_or_ge i k with h | h
   ·exact hyx (z_b8 (z_nP hs h hy hz) q)
   ·obtain rfl:k=i:=by omega
    rw [hy] at hz
    obtain rfl:=Option.some.inj hz
    exact hyx q
 ·have hge0: ¬(i:Int)<l.length:=hge
  refine EntX.of i ⟨hi,z_qy hi hpre fun k z hk hz _=>?_⟩ (Ent.same ⟨rfl,rfl,rfl,trivial⟩ rfl)
  have:=(List.getElem?_eq_some_iff.1 hz).1
  omega
structure WoJ where
 i:Nat
 A:Option Addr
 c:Nat
end Go.Proofs.YtloeaiafphkjnaaGreatDoor.Sx
