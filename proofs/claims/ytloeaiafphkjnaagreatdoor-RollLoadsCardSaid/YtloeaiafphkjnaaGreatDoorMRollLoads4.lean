/- Texts joined: Rn1, Rn2, Rn3, Rn4, Rn5, Pd4R, MkR, R14b, R14c, R14d, R14e, R14f, R14g, R14h, R14i, R14j, JnP, Rl1, B6L, B6V, B6G, B6D, Rk1, B6W, B6E, SxAs, StepG, Bk2, Box1, Box2, Join, Bk3, SumJ, HmL, Rep, Rep2, Hm1, Bk4, Bk5, Srt, Bk6, Bk7, Bk8, Bk9, Xor, Hm2, Hm3, Hsh, Hsh2, Hsh3, Mac, Pie, Pie2, Str, Trn, Turn, Ak5, Ak6, BxP, Rf5, Rt1, Rt2, Rt3, Rt4, Rt5, Tl2, Tl3, TlG, Flip, Tl1, Tl4, Tl5, LenX, Tl7, Tl8, Tl10, Rk2, B6U. -/
import Derived.Test.YtloeaiafphkjnaaGreatDoorMRollLoads3
import Derived.Test.YtloeaiafphkjnaaGreatDoorMRollLoads2
import Derived.Lib.Join
import Derived.Lib.SlParts
import Derived.Lib.SlFresh
import Derived.Lib.MakeNoZero
import Derived.Laws.Externs
import Derived.Sort.OwnSortedInts
set_option linter.unusedVariables false
set_option linter.unusedSimpArgs false
namespace Go.Proofs.YtloeaiafphkjnaaGreatDoor.Sx
open Go
attribute [local irreducible] Calls
def lead (b:UInt8):Option (Nat×Nat):=
 if 194<=b.toNat/\b.toNat<=223 then some (2,b.toNat - 192)
 else if 224<=b.toNat/\b.toNat<=239 then some (3,b.toNat - 224)
 else if 240<=b.toNat/\b.toNat<=244 then some (4,b.toNat - 240)
 else none
theorem z_fc: ∀ {l:List UInt8} {r q:Nat},Nam.tailR l r=some q->r*64^l.length<=q/\q<(r+1)*64^l.length
 | [],r,q,h=>by
  obtain rfl:=Option.some.inj h
  simp
 | b::t,r,q,h=>by
  simp only [Nam.tailR] at h
  split at h
  ·obtain ⟨h1,h2⟩:=z_fc h
   have hb:b.toNat%64<64:=Nat.mod_lt _ (by decide)
   rw [List.length_cons,Nat.pow_succ]
   constructor
   ·have:r*(64^t.length*64)=(r*64)*64^t.length:=by rw [Nat.mul_comm (64^t.length),Nat.mul_assoc]
    rw [this]
    exact Nat.le_trans (Nat.mul_le_mul_right _ (by omega)) h1
   ·have:(r+1)*(64^t.length*64)=((r+1)*64)*64^t.length:=by rw [Nat.mul_comm (64^t.length),Nat.mul_assoc]
    rw [this]
    exact Nat.lt_of_lt_of_le h2 (Nat.mul_le_mul_right _ (by omega))
  ·cases h
theorem z_lC (b:UInt8):(b.toNat<128->b&&&0x80=0/\(b&&& ~~~0x80).toNat=b.toNat)/\(192<=b.toNat/\b.toNat<=223->b&&&0xe0=0xc0/\(b&&& ~~~0xe0).toNat=b.toNat - 192)/\(224<=b.toNat/\b.toNat<=239->b&&&0xf0=0xe0/\(b&&& ~~~0xf0).toNat=b.toNat - 224)/\(240<=b.toNat/\b.toNat<=247->b&&&0xf8=0xf0/\(b&&& ~~~0xf8).toNat=b.toNat - 240)/\((128<=b.toNat/\b.toNat<=191)\/248<=b.toNat-> ¬b&&&0x80=0/\ ¬b&&&0xe0=0xc0/\ ¬b&&&0xf0=0xe0/\ ¬b&&&0xf8=0xf0):=by
 refine Nam.u8_all (p:=fun b=>(b.toNat<128->b&&&0x80=0/\(b&&& ~~~0x80).toNat=b.toNat)/\(192<=b.toNat/\b.toNat<=223->b&&&0xe0=0xc0/\(b&&& ~~~0xe0).toNat=b.toNat - 192)/\(224<=b.toNat/\b.toNat<=239->b&&&0xf0=0xe0/\(b&&& ~~~0xf0).toNat=b.toNat - 224)/\(240<=b.toNat/\b.toNat<=247->b&&&0xf8=0xf0/\(b&&& ~~~0xf8).toNat=b.toNat - 240)/\((128<=b.toNat/\b.toNat<=191)\/248<=b.toNat-> ¬b&&&0x80=0/\ ¬b&&&0xe0=0xc0/\ ¬b&&&0xf0=0xe0/\ ¬b&&&0xf8=0xf0)) ?_ b
 decide+kernel
theorem z_iq {b:UInt8} {t:List UInt8} {f:Nam.Fm} {r0:Nat} (hf:f∈Nam.fms) (hb:b&&&f.mask=f.lead) (hr:(b&&& ~~~f.mask).toNat=r0):
  Nam.decL (b::t)=if (b::t).length<f.size then (none,1) else match Nam.tailR (t.take (f.size - 1)) r0 with
   | some r=>if f.least<=r/\Nam.sign r=true then (some r,f.size) else (none,1)
   | none=>(none,1):=by
 unfold Nam.decL
 rw [Nam.find_form hf hb]
 by_cases hl:f.size<=(b::t).length
 ·rw [if_pos hl,if_neg (by omega)]
  simp only [Nam.tryF,hr]
  cases Nam.tailR (t.take (f.size - 1)) r0 with
  | none=>rfl
  | some r=>
   simp only
   by_cases h:f.least<=r/\Nam.sign r=true
   ·rw [if_pos h,if_pos h]
   ·rw [if_neg h,if_neg h]
 ·rw [if_neg hl,if_pos (by omega)]
theorem z_pF {b:UInt8} {t:List UInt8} (h:b.toNat<128):Nam.decL (b::t)=(some b.toNat,1):=by
 obtain ⟨h1,h2⟩:=(z_lC b).1 h
 rw [z_iq (f:=⟨1,0x80,0,0⟩) (by simp [Nam.fms]) h1 h2,if_neg (by simp)]
 show (if 0<=b.toNat/\Nam.sign b.toNat=true then (some b.toNat,1) else (none,1))=_
 rw [if_pos ⟨Nat.zero_le _,by simp only [Nam.sign,Bool.and_eq_true,Bool.or_eq_true,decide_eq_true_eq];omega⟩]
def badR (n r:Nat):Prop:=(n=3/\r<2048)\/(n=4/\r<65536)\/(55296<=r/\r<=57343)\/1114111<r
theorem sign_iff {r:Nat}:Nam.sign r=true↔r<=1114111/\(r<55296\/57343<r):=by
 simp only [Nam.sign,Bool.and_eq_true,Bool.or_eq_true,decide_eq_true_eq]
open Classical in
theorem z_rz {b:UInt8} {t:List UInt8} {n r0:Nat} (h:lead b=some (n,r0)):2<=n/\n<=4/\r0<32/\
  Nam.decL (b::t)=if (b::t).length<n then (none,1) else match Nam.tailR (t.take (n - 1)) r0 with
   | some r=>if badR n r then (none,1) else (some r,n)
   | none=>(none,1):=by
 obtain ⟨_,k2,k3,k4,_⟩:=z_lC b
 have hlt:=b.toNat_lt
 have fin_: ∀ {f:Nam.Fm},f∈Nam.fms->f.size=n->b&&&f.mask=f.lead->(b&&& ~~~f.mask).toNat=r0->(∀r,Nam.tailR (t.take (n - 1)) r0=some r->n<=(b::t).length->((f.least<=r/\Nam.sign r=true)↔ ¬badR n r))->
   Nam.decL (b::t)=if (b::t).length<n then (none,1) else match Nam.tailR (t.take (n - 1)) r0 with
    | some r=>if badR n r then (none,1) else (some r,n)
    | none=>(none,1):=by
  intro f hf hn h1 h2 hq
  subst hn
  rw [z_iq hf h1 h2]
  by_cases hl:(b::t).length<f.size
  ·rw [if_pos hl,if_pos hl]
  ·rw [if_neg hl,if_neg hl]
   cases hr:Nam.tailR (t.take (f.size - 1)) r0 with
   | none=>rfl
   | some r=>
    simp only
    have:=hq r hr (by omega)
    by_cases hb:badR f.size r
    ·rw [if_pos hb,if_neg (fun q=>this.1 q hb)]
    ·rw [if_neg hb,if_pos (this.2 hb)]
 unfold lead at h
 split at h
 ·rename_i hh
  obtain ⟨rfl,rfl⟩:=Prod.mk.inj (Option.some.inj h)
  obtain ⟨h1,h2⟩:=k2 (by omega)
  refine ⟨by decide,by decide,by omega,fin_ (f:=⟨2,0xe0,0xc0,0x80⟩) (by simp [Nam.fms]) rfl h1 h2 (fun r hr hl=>?_)⟩
  have hb:=z_fc hr
  have hl1:(t.take 1).length=1:=by rw [List.length_take];simp only [List.length_cons] at hl;omega
  rw [hl1] at hb
  rw [sign_iff]
  show (128<=r/\_)↔_
  unfold badR
  omega
 ·split at h
  ·rename_i hh
   obtain ⟨rfl,rfl⟩:=Prod.mk.inj (Option.some.inj h)
   obtain ⟨h1,h2⟩:=k3 (by omega)
   refine ⟨by decide,by decide,by omega,fin_ (f:=⟨3,0xf0,0xe0,0x800⟩) (by simp [Nam.fms]) rfl h1 h2 (fun r hr hl=>?_)⟩
   rw [sign_iff]
   show (2048<=r/\_)↔_
   unfold badR
   omega
  ·split at h
   ·rename_i hh
    obtain ⟨rfl,rfl⟩:=Prod.mk.inj (Option.some.inj h)
    obtain ⟨h1,h2⟩:=k4 (by omega)
    refine ⟨by decide,by decide,by omega,fin_ (f:=⟨4,0xf8,0xf0,0x10000⟩) (by simp [Nam.fms]) rfl h1 h2 (fun r hr hl=>?_)⟩
    rw [sign_iff]
    show (65536<=r/\_)↔_
    unfold badR
    omega
   ·cases h
theorem z_pf {b:UInt8} {t:List UInt8} (h0: ¬b.toNat<128) (h:lead b=none):Nam.decL (b::t)=(none,1):=by
 obtain ⟨_,k2,k3,k4,k5⟩:=z_lC b
 have hlt:=b.toNat_lt
 unfold lead at h
 split at h
 ·cases h
 ·split at h
  ·cases h
  ·split at h
   ·cases h
   ·rename_i a1 a2 a3
    by_cases c1:b.toNat=192\/b.toNat=193
    ·obtain ⟨h1,h2⟩:=k2 (by omega)
     rw [z_iq (f:=⟨2,0xe0,0xc0,0x80⟩) (by simp [Nam.fms]) h1 h2]
     by_cases hl:(b::t).length<2
     ·rw [if_pos hl]
     ·rw [if_neg hl]
      show (match Nam.tailR (t.take 1) (b.toNat - 192) with | some r=>if 128<=r/\Nam.sign r=true then (some r,2) else (none,1) | none=>(none,1))=_
      cases hr:Nam.tailR (t.take 1) (b.toNat - 192) with
      | none=>rfl
      | some r=>
       have hb:=z_fc hr
       have hl1:(t.take 1).length=1:=by rw [List.length_take];simp only [List.length_cons] at hl;omega
       rw [hl1] at hb
       simp only
       rw [if_neg (by omega)]
    ·by_cases c2:245<=b.toNat/\b.toNat<=247
     ·obtain ⟨h1,h2⟩:=k4 (by omega)
      rw [z_iq (f:=⟨4,0xf8,0xf0,0x10000⟩) (by simp [Nam.fms]) h1 h2]
      by_cases hl:(b::t).length<4
      ·rw [if_pos hl]
      ·rw [if_neg hl]
       show (match Nam.tailR (t.take 3) (b.toNat - 240) with | some r=>if 65536<=r/\Nam.sign r=true then (some r,4) else (none,1) | none=>(none,1))=_
       cases hr:Nam.tailR (t.take 3) (b.toNat - 240) with
       | none=>rfl
       | some r=>
        have hb:=z_fc hr
        have hl1:(t.take 3).length=3:=by rw [List.length_take];simp only [List.length_cons] at hl;omega
        rw [hl1] at hb
        simp only
        rw [if_neg (by rw [sign_iff];omega)]
     ·obtain ⟨p1,p2,p3,p4⟩:=k5 (by omega)
      unfold Nam.decL
      rw [Nam.find_none (fun f hf=>by
       simp only [Nam.fms,List.mem_cons,List.not_mem_nil,or_false] at hf
       rcases hf with rfl | rfl | rfl | rfl
       ·exact p1
       ·exact p2
       ·exact p3
       ·exact p4)]
theorem z_th (w:World) (z:Int):Pu Tryz.prog z_c6 #[.int .i64 z] w (.bool (rblank z)):=by
 refine z_ad (cx:=z_cP w (Un [])) (z_fm w (Un [])) z_hv rfl rfl (β:=Va.z) [.c (.v (.int .i64 z))] 0 [] [] rfl rfl (Sat.start rfl) ?_
 repeat' refine BIf.dec (fun h=>?_) (fun h=>?_)
 all_goals
  intro β w' hs
  refine hs.fin [] ⟨?_,rfl⟩
  show Value.bool _=Value.bool _
  congr 1
  unfold rblank
  rw [Bool.eq_iff_iff]
  simp only [decide_eq_true_eq,Bool.false_eq_true,true_iff,false_iff]
  omega
theorem z_va (w:World) (z:Int):Pu Tryz.prog z_dz #[.int .i64 z] w (.bool (rgoes z)):=by
 refine z_ad (cx:=z_de w (Un [])) (z_fV w (Un [])) z_h8 rfl rfl (β:=Va.z) [.c (.v (.int .i64 z))] 0 [] [] rfl rfl (Sat.start rfl) ?_
 repeat' refine BIf.dec (fun h=>?_) (fun h=>?_)
 all_goals
  intro β w' hs
  refine hs.fin [] ⟨?_,rfl⟩
  show Value.bool _=Value.bool _
  congr 1
  unfold rgoes
  rw [Bool.eq_iff_iff]
  simp only [decide_eq_true_eq,Bool.false_eq_true,true_iff,false_iff]
  omega
theorem z_uj (w:World) (z:Int):Pu Tryz.prog z_dU #[.int .u8 z] w (.bool (decide (128<=z/\z<=191))):=by
 refine z_ad (cx:=z_di w (Un [])) (z_f1 w (Un [])) z_id rfl rfl (β:=Va.z) [.c (.v (.int .u8 z))] 0 [] [] rfl rfl (Sat.start rfl) ?_
 repeat' refine BIf.dec (fun h=>?_) (fun h=>?_)
 all_goals
  intro β w' hs
  refine hs.fin [] ⟨?_,rfl⟩
  show Value.bool _=Value.bool _
  congr 1
  rw [Bool.eq_iff_iff]
  simp only [decide_eq_true_eq,Bool.false_eq_true,true_iff,false_iff]
  omega
set_option maxHeartbeats 2000000 in
theorem z_u4 (w:World) (z:Int) (h0:0<=z):Pu Tryz.prog z_dB #[.int .i64 z] w (.bool (rbars z)):=by
 refine z_ad (cx:=z_df w (Un [])) (z_fO w (Un [])) z_h0 rfl rfl (β:=Va.z) [.c (.v (.int .i64 z))] 0 [] [] rfl rfl (Sat.start rfl) ?_
 obtain ⟨m,hm⟩: ∃m,z.tmod 65536=m:=⟨_,rfl⟩
 have hm2:z%65536=m:=by rw [<-hm,Int.tmod_eq_emod_of_nonneg h0]
 repeat' refine BIf.dec (fun h=>?_) (fun h=>?_)
 all_goals
  try refine ⟨by decide,m,hm,?_⟩
  intro β w' hs
  refine hs.fin [] ⟨?_,rfl⟩
  show Value.bool _=Value.bool _
  congr 1
  unfold rbars
  rw [Bool.eq_iff_iff]
  simp only [decide_eq_true_eq,Bool.false_eq_true,true_iff,false_iff]
  omega
set_option maxHeartbeats 2000000 in
theorem z_s7 (w:World) (s:ByteArray) (b0:UInt8) (t:List UInt8) (hs0:s.data.toList=b0::t) (hsz:s.size<=maxLen):
    Pu Tryz.prog z_dn #[.string s] w (.tuple #[.int .i64 (runeI (Nam.decL (b0::t)).1),.int .i64 ((Nam.decL (b0::t)).2:Int)]):=by
  have g:=z_fr w (Un [])
  have hlen:s.size=(b0::t).length:=by rw [<-hs0];rfl
  have hml:=z_ag
  refine z_dt (cx:=z_bd w (Un [])) g z_hg rfl rfl (β:=Va.z) [.c (.v (.string s))] 0 [] [] rfl rfl (Sat.start rfl) ?_
  have fin: ∀(a b:Int),runeI (Nam.decL (b0::t)).1=a->((Nam.decL (b0::t)).2:Int)=b-> ∀ {n:Nat} {H:List Bk} {F:List Fact} (β:Va) (w':World),Sat (z_bd w (Un [])) β n H F w'->Fin w [] (fun u Fs=>u= .tuple #[.int .i64 (runeI (Nam.decL (b0::t)).1),.int .i64 ((Nam.decL (b0::t)).2:Int)]/\Fs=[]) (.tuple #[.int .i64 a,.int .i64 b]) w':=by
    intro a b h1 h2 n H F β w' hs
    rw [h1,h2]
    exact (hs.keepB (List.nil_sublist _)).fin [] ⟨rfl,rfl⟩
  obtain ⟨c,hc⟩: ∃c,b0.toNat=c:=⟨_,rfl⟩
  have hc256:c<256:=by rw [<-hc];exact b0.toNat_lt
  refine z_an g ?_
  refine z_an g ?_
  refine ⟨0,b0,rfl,by rw [hs0];rfl,?_⟩
  refine ⟨(c:Int),by rw [hc];exact wrap_i64 (by omega) (by omega),?_⟩
  refine z_an g ?_
  refine z_b3 (ι:=Nat×Nat×Int×Int) g (fun i=>lead b0=some (i.1,i.2.1)/\(i.1:Int)=i.2.2.1/\(i.2.1:Int)=i.2.2.2) 0 (fun i=>[(0,.c (.v (.string s))),(5,.c (.v (.int .i64 i.2.2.1))),(6,.c (.v (.int .i64 i.2.2.2)))]) (fun _=>[]) (fun _=>[]) ?_ ?_
  · rintro ⟨n,r0,y,z0⟩ ⟨hld,hy,hz0⟩
    simp only at hld hy hz0
    obtain ⟨hn2,hn4,hr0,hdec⟩:=z_rz (t:=t) hld
    simp only
    refine z_fI g ?_
    refine BIf.dec (fun hsh=>?_) (fun hsh=>?_)
    · have hsh0:(s.size:Int)<y:=hsh
      rw [if_pos (by omega)] at hdec
      exact fun β w' hs=>fin (-1) 1 (by rw [hdec];rfl) (by rw [hdec];rfl) β w' hs
    · have hsh0: ¬(s.size:Int)<y:=hsh
      rw [if_neg (by omega)] at hdec
      have hfl:n<=(b0::t).length:=by omega
      have hr256:r0<256:=by omega
      refine z_ai (ι:=Nat×Nat×Int) 0 (fun q=>[(0,.c (.v (.string s))),(5,.c (.v (.int .i64 y))),(6,.c (.v (.int .i64 q.2.2))),(7,.c (.v (.int .i64 (q.1:Int))))]) (fun _=>[]) (fun _=>[])
        (fun q=>1<=q.1/\q.1<=n/\Nam.tailR (t.take (q.1 - 1)) r0=some q.2.1/\q.2.1<256*64^(q.1 - 1)/\(q.2.1:Int)=q.2.2) (fun q=>n - q.1) (1,r0,z0) ⟨Nat.le_refl _,by omega,rfl,by simpa using hr256,hz0⟩ (Ent.same ⟨rfl,rfl,rfl,rfl,trivial⟩ rfl) g ?_
      rintro ⟨k,r,z⟩ ⟨hk1,hk2,htl,hrb,hz⟩
      simp only at hk1 hk2 htl hrb hz
      simp only
      refine BIf.dec (fun hks=>?_) (fun hks=>?_)
      · have hks1:(k:Int)<y:=hks
        have hkt:k - 1<t.length:=by simp only [List.length_cons] at hfl;omega
        obtain ⟨x,hx,hxm⟩:=at_lt hkt
        have hcs:s.data.toList[k]?=some x:=by
          rw [hs0]
          obtain ⟨k',rfl⟩: ∃k',k=k'+1:=⟨k - 1,by omega⟩
          simpa using hx
        have hsn:t.take k=t.take (k - 1)++[x]:=by
          have:=List.take_add_one (l:=t) (i:=k - 1)
          rw [hx,Nat.sub_add_cancel hk1] at this
          exact this
        have hrb2:r<33554432:=by
          have:64^(k - 1)<=64^2:=Nat.pow_le_pow_right (by decide) (by omega)
          omega
        obtain ⟨m,hm⟩: ∃m,x.toNat=m:=⟨_,rfl⟩
        have hm256:m<256:=by rw [<-hm];exact x.toNat_lt
        refine ⟨k,x,rfl,hcs,?_⟩
        obtain ⟨bt,hbt⟩: ∃bt,decide (128<=(m:Int)/\(m:Int)<=191)=bt:=⟨_,rfl⟩
        refine z_af (v:= .bool bt) (fun β w' hs=>by rw [<-hbt,<-hm];exact z_uj w' (x.toNat:Int)) ?_
        cases bt with
        | true=>
          have hct:=of_decide_eq_true hbt
          have hcc:x.toNat/64=2:=by rw [hm];omega
          refine ⟨((r*64:Nat):Int),by rw [<-hz,wrap_i64 (by omega) (by omega)];omega,?_⟩
          refine ⟨k,x,rfl,hcs,?_⟩
          refine ⟨((m%64:Nat):Int),by rw [hm,wrap_u8];omega,?_⟩
          refine ⟨((m%64:Nat):Int),wrap_i64 (by omega) (by omega),?_⟩
          refine ⟨((r*64+m%64:Nat):Int),by rw [wrap_i64 (by omega) (by omega)];omega,?_⟩
          refine ⟨((k+1:Nat):Int),by rw [wrap_i64 (by omega) (by omega)];rfl,?_⟩
          refine ⟨(k+1,r*64+m%64,((r*64+m%64:Nat):Int)),⟨by show 1<=k+1;omega,by show k+1<=n;omega,?_,?_,rfl⟩,by show n - (k+1)<n - k;omega,Ent.same ⟨rfl,rfl,rfl,rfl,trivial⟩ rfl⟩
          · show Nam.tailR (t.take (k+1 - 1)) r0=some (r*64+m%64)
            rw [Nat.add_sub_cancel,hsn,z_jL,htl]
            simp only
            rw [if_pos hcc,hm]
          · show r*64+m%64<256*64^(k+1 - 1)
            obtain ⟨k',rfl⟩: ∃k',k=k'+1:=⟨k - 1,by omega⟩
            simp only [Nat.add_sub_cancel] at hrb ⊢
            rw [Nat.pow_succ]
            omega
        | false=>
          have hct:=of_decide_eq_false hbt
          have hcc: ¬x.toNat/64=2:=fun q=>hct (by rw [hm] at q;omega)
          have hnone:Nam.tailR (t.take (n - 1)) r0=none:=by
            refine Nam.tailR_none ⟨x,?_,hcc⟩
            have h2:x∈t.take k:=by rw [hsn];simp
            exact List.take_subset_take_left t (by omega) h2
          rw [hnone] at hdec
          exact fun β w' hs=>fin (-1) 1 (by rw [hdec];rfl) (by rw [hdec];rfl) β w' hs
      · have hks1: ¬(k:Int)<y:=hks
        obtain rfl:k=n:=by omega
        rw [htl] at hdec
        simp only at hdec
        by_cases hb:badR k r
        · rw [if_pos hb] at hdec
          unfold badR at hb
          repeat' refine BIf.dec (fun h=>?_) (fun h=>?_)
          all_goals first
            | exact fun β w' hs=>fin (-1) 1 (by rw [hdec];rfl) (by rw [hdec];rfl) β w' hs
            | (exfalso;omega)
        · rw [if_neg hb] at hdec
          unfold badR at hb
          repeat' refine BIf.dec (fun h=>?_) (fun h=>?_)
          all_goals first
            | exact fun β w' hs=>fin z y (by rw [hdec];exact hz) (by rw [hdec];exact hy) β w' hs
            | (exfalso;omega)
  · generalize hz:(c:Int)=z
    repeat' refine BIf.dec (fun h=>?_) (fun h=>?_)
    all_goals first
      | (exfalso;omega)
      | exact fun β w' hs=>fin z 1 (by rw [z_pF (by omega),<-hz,<-hc];rfl) (by rw [z_pF (by omega)];rfl) β w' hs
      | exact fun β w' hs=>fin (-1) 1 (by rw [z_pf (by omega) (by unfold lead;rw [hc,if_neg (by omega),if_neg (by omega),if_neg (by omega)])];rfl) (by rw [z_pf (by omega) (by unfold lead;rw [hc,if_neg (by omega),if_neg (by omega),if_neg (by omega)])];rfl) β w' hs
      | (refine ⟨((c - 192:Nat):Int),by rw [wrap_i64 (by omega) (by omega)];omega,?_⟩
         exact EntX.of (2,c - 192,2,((c - 192:Nat):Int)) ⟨by show lead b0=some (2,c - 192);unfold lead;rw [hc,if_pos (by omega)],rfl,rfl⟩ (Ent.mk' ⟨rfl,rfl,rfl,trivial⟩ rfl (fun β w' hs=>hs)))
      | (refine ⟨((c - 224:Nat):Int),by rw [wrap_i64 (by omega) (by omega)];omega,?_⟩
         exact EntX.of (3,c - 224,3,((c - 224:Nat):Int)) ⟨by show lead b0=some (3,c - 224);unfold lead;rw [hc,if_neg (by omega),if_pos (by omega)],rfl,rfl⟩ (Ent.mk' ⟨rfl,rfl,rfl,trivial⟩ rfl (fun β w' hs=>hs)))
      | (refine ⟨((c - 240:Nat):Int),by rw [wrap_i64 (by omega) (by omega)];omega,?_⟩
         exact EntX.of (4,c - 240,4,((c - 240:Nat):Int)) ⟨by show lead b0=some (4,c - 240);unfold lead;rw [hc,if_neg (by omega),if_neg (by omega),if_pos (by omega)],rfl,rfl⟩ (Ent.mk' ⟨rfl,rfl,rfl,trivial⟩ rfl (fun β w' hs=>hs)))
def signV (x:Rn):List Value:=[.int .i64 (x.1:Int),.int .i64 x.2]
def signsV (l:List Rn):List Value:=l.flatMap signV
abbrev sgnF (A:Option Addr) (l:List Rn) (c:Nat):Fact:=rowF z_hu 2 (.slice A l.length c) l.length (signsV l)
theorem z_og (l:List Rn) (x:Rn):signsV (l++[x])=signsV l++signV x:=by simp [signsV]
theorem z_rW (x:Rn): ∀u∈signV x,u.oneCell'=true:=by
 intro u hu
 simp only [signV,List.mem_cons,List.not_mem_nil,or_false] at hu
 rcases hu with rfl | rfl<;>rfl
theorem z_tv (w:World) (s:ByteArray) (hl:s.size<=1000000):
  Con Tryz.prog z_do #[.string s] w [] fun v Fs=> ∃A c,v= .slice A (runesAt s.data.toList 0).length c/\(runesAt s.data.toList 0).length<=c/\(0<(runesAt s.data.toList 0).length-> ∃ad,A=some ad)/\Fs=[sgnF A (runesAt s.data.toList 0) c]:=by
 have g:=z_fh w (Un [])
 have hlen:s.data.toList.length=s.size:=rfl
 have hml:=z_ag
 refine z_ad (cx:=z_cN w (Un [])) g z_hb rfl rfl (β:=Va.z) [.c (.v (.string s))] 0 [] [sgnF none [] 0] rfl rfl ((Sat.start rfl).nilRow _ _) ?_
 refine z_ai (ι:=List Rn×Nat×Option Addr×Nat) 0 (fun i=>[(0,.c (.v (.string s))),(3,.c (.v (.slice i.2.2.1 i.1.length i.2.2.2))),(4,.c (.v (.int .i64 (i.2.1:Int))))]) (fun _=>[]) (fun i=>[sgnF i.2.2.1 i.1 i.2.2.2])
  (fun i=>runesAt s.data.toList 0=i.1++runesAt s.data.toList i.2.1/\i.2.1<=s.size/\i.1.length<=i.2.1/\i.1.length<=i.2.2.2) (fun i=>s.size - i.2.1) ([],0,none,0) ⟨rfl,Nat.zero_le _,Nat.zero_le _,Nat.zero_le _⟩ (Ent.same ⟨rfl,rfl,rfl,trivial⟩ rfl) g ?_
 rintro ⟨pre,i,A1,c1⟩ ⟨hsc,hi,hgi,hgc⟩
 simp only at hsc hi hgi hgc
 simp only
 refine BIf.dec (fun hlt=>?_) (fun hge=>?_)
 ·have hlt0:(i:Int)<s.size:=hlt
  have hil:i<s.data.toList.length:=by omega
  refine ⟨s.size,i,rfl,rfl,Nat.le_refl _,hi,?_⟩
  have hd:=Nam.decL_size (z_gu hil)
  rw [List.length_drop] at hd
  rw [z_ee hil] at hsc
  obtain ⟨b0,t,hbt⟩: ∃b0 t,s.data.toList.drop i=b0::t:=by
   cases h:s.data.toList.drop i with
   | nil=>exact absurd h (z_gu hil)
   | cons b t=>exact ⟨b,t,rfl⟩
  obtain ⟨o,n,hon⟩: ∃o n,Nam.decL (s.data.toList.drop i)=(o,n):=⟨_,_,rfl⟩
  rw [hon] at hd hsc
  simp only at hd hsc
  obtain ⟨z,hz⟩: ∃z,runeI o=z:=⟨_,rfl⟩
  rw [hz] at hsc
  refine z_af (v:= .tuple #[.int .i64 z,.int .i64 (n:Int)]) (fun β w' hs=>by
   have h:=z_s7 w' (s.extract i s.size) b0 t (by rw [z_ka,hbt]) (by rw [ByteArray.size_extract];omega)
   rw [<-hbt,hon,hz] at h
   exact h) ?_
  intro b1
  refine ⟨1,pre.length,pre.length+1,signsV pre,signV (i,z),signsV (pre++[(i,z)]),rfl,fun β w hs=>z_am (hs.get 0 rfl),z_rW _,rfl,(z_og _ _).symm,by rw [z_ag];omega,by show (pre.length+1)*16<=_;omega,?_⟩
  intro A' c' q1 q2 _
  refine ⟨((i+n:Nat):Int),by rw [wrap_i64 (by omega) (by omega)];rfl,?_⟩
  have hle:(pre++[(i,z)]:List Rn).length=pre.length+1:=by simp
  refine ⟨(pre++[(i,z)],i+n,A',c'),⟨by show runesAt s.data.toList 0=pre++[(i,z)]++runesAt s.data.toList (i+n);rw [hsc];simp,by show i+n<=s.size;omega,by show (pre++[(i,z)]:List Rn).length<=i+n;omega,by show (pre++[(i,z)]:List Rn).length<=c';omega⟩,by show s.size - (i+n)<s.size - i;omega,?_⟩
  simp only [sgnF,hle]
  exact Ent.mk' ⟨rfl,rfl,rfl,trivial⟩ rfl (fun β w' hs=>hs.weaken (List.Sublist.refl _) (List.sublist_cons_self _ _))
 ·have hge0: ¬(i:Int)<s.size:=hge
  rw [z_cq (l:=s.data.toList) (i:=i) (by omega),List.append_nil] at hsc
  intro β w' hs
  rw [hsc]
  refine hs.fin [0] ⟨A1,c1,rfl,hgc,fun h=>?_,rfl⟩
  obtain ⟨ad,h1,_⟩:=(z_am (hs.get 0 rfl)).2 (by omega)
  exact ⟨ad,h1⟩
theorem quoN {r:Nat} (k:Nat) (h:r<9223372036854775808):IntKind.i64.wrap ((r:Int).tdiv (k:Int))=((r/k:Nat):Int):=by
 rw [<-Int.ofNat_tdiv]
 have:=Nat.div_le_self r k
 generalize r/k=q at this ⊢
 exact wrap_i64 (by omega) (by omega)
theorem quoZ {r:Nat} {z:Int} (hz:(r:Int)=z) (k:Nat) (h:r<9223372036854775808):IntKind.i64.wrap (z.tdiv (k:Int))=((r/k:Nat):Int):=by rw [<-hz];exact quoN k h
theorem remZ {r:Nat} {z:Int} (hz:(r:Int)=z) (k:Nat):z.tmod (k:Int)=((r%k:Nat):Int):=by rw [<-hz];exact (Int.ofNat_tmod r k).symm
theorem u8Z {r:Nat} {z:Int} (hz:(r:Int)=z):IntKind.u8.wrap z=((UInt8.ofNat r).toNat:Int):=by rw [<-hz];exact z_bK r
theorem remN (r k:Nat):(r:Int).tmod (k:Int)=((r%k:Nat):Int):=(Int.ofNat_tmod r k).symm
theorem addN {k x:Nat} (h:k+x<9223372036854775808):IntKind.i64.wrap ((k:Int)+(x:Int))=((k+x:Nat):Int):=by
 rw [wrap_i64 (by omega) (by omega)];rfl
theorem z_sT (w:World) (r:Nat) (z:Int) (hz:(r:Int)=z) (hsg:Nam.sign r=true):
    Con Tryz.prog z_c5 #[.int .i64 z] w [] fun v Fs=> ∃A c,v= .slice A (rbytesL r).length c/\(rbytesL r).length<=c/\c<=maxLen/\Fs=[browF z_ab A (rbytesL r) c]:=by
  have hs2:=sign_iff.1 hsg
  have hml:=z_ag
  obtain ⟨l,hl⟩: ∃l,rbytesL r=l:=⟨_,rfl⟩
  rw [hl]
  refine z_ad (cx:=z_cT w (Un [])) (z_fq w (Un [])) z_hw rfl rfl (β:=Va.z) [.c (.v (.int .i64 z))] 0 [] [] rfl rfl (Sat.start rfl) ?_
  repeat' refine BIf.dec (fun h=>?_) (fun h=>?_)
  all_goals first
    | (exfalso;omega)
    | (have e:l=[UInt8.ofNat r]:=by rw [<-hl];unfold rbytesL;rw [if_pos (by omega)]
       subst e
       refine ⟨_,u8Z hz,?_⟩
       intro b β w' hs
       exact hs.fin [0] ⟨_,1,rfl,Nat.le_refl 1,by rw [z_ag];decide,rfl⟩)
    | (have e:l=[UInt8.ofNat (192+r/64),UInt8.ofNat (128+r%64)]:=by rw [<-hl];unfold rbytesL;rw [if_neg (by omega),if_pos (by omega)]
       subst e
       refine ⟨by decide,_,quoZ hz 64 (by omega),_,addN (k:=192) (by omega),_,z_bK _,by decide,_,remZ hz 64,_,addN (k:=128) (by omega),_,z_bK _,?_⟩
       intro b β w' hs
       exact hs.fin [0] ⟨_,2,rfl,Nat.le_refl 2,by rw [z_ag];decide,rfl⟩)
    | (have e:l=[UInt8.ofNat (224+r/4096),UInt8.ofNat (128+r/64%64),UInt8.ofNat (128+r%64)]:=by rw [<-hl];unfold rbytesL;rw [if_neg (by omega),if_neg (by omega),if_pos (by omega)]
       subst e
       refine ⟨by decide,_,quoZ hz 4096 (by omega),_,addN (k:=224) (by omega),_,z_bK _,by decide,_,quoZ hz 64 (by omega),by decide,_,remN (r/64) 64,_,addN (k:=128) (by omega),_,z_bK _,by decide,_,remZ hz 64,_,addN (k:=128) (by omega),_,z_bK _,?_⟩
       intro b β w' hs
       exact hs.fin [0] ⟨_,3,rfl,Nat.le_refl 3,by rw [z_ag];decide,rfl⟩)
    | (have e:l=[UInt8.ofNat (240+r/262144),UInt8.ofNat (128+r/4096%64),UInt8.ofNat (128+r/64%64),UInt8.ofNat (128+r%64)]:=by rw [<-hl];unfold rbytesL;rw [if_neg (by omega),if_neg (by omega),if_neg (by omega)]
       subst e
       refine ⟨by decide,_,quoZ hz 262144 (by omega),_,addN (k:=240) (by omega),_,z_bK _,by decide,_,quoZ hz 4096 (by omega),by decide,_,remN (r/4096) 64,_,addN (k:=128) (by omega),_,z_bK _,by decide,_,quoZ hz 64 (by omega),by decide,_,remN (r/64) 64,_,addN (k:=128) (by omega),_,z_bK _,by decide,_,remZ hz 64,_,addN (k:=128) (by omega),_,z_bK _,?_⟩
       intro b β w' hs
       exact hs.fin [0] ⟨_,4,rfl,Nat.le_refl 4,by rw [z_ag];decide,rfl⟩)
theorem z_oS {l:List UInt8} {x:Rn} (hx:x∈runesAt l 0):x.2= -1\/0<=x.2:=by
 have h:=z_eh l _ 0 (Nat.le_refl _)
 rw [List.drop_zero] at h
 have hm:x.2∈(Nam.runes l).map runeI:=by rw [<-h];exact List.mem_map.2 ⟨x,hx,rfl⟩
 obtain ⟨o,_,he⟩:=List.mem_map.1 hm
 cases o with
 | none=>exact .inl he.symm
 | some r=>right;rw [<-he];exact Int.natCast_nonneg r
theorem signRd {w:World} {ad:Addr} {L:List Rn} (h:Rd 2 (some ad) L.length (signsV L) w) {k:Nat} {x:Rn} (hx:L[k]?=some x): ∀j u,(signV x)[j]?=some u->w.cell? ((ad.add (k*2)).add j)=some u:=by
 obtain ⟨hil,hie⟩:=List.getElem?_eq_some_iff.1 hx
 have h2:=Rd.elem (f:=signV) (fun _=>rfl) h rfl hil
 rw [hie] at h2
 exact h2
structure PrR where
 k:Nat
 out:List UInt8
 A:Option Addr
 c:Nat
theorem z_ok (r:Nat):(rbytesL r).length<=4:=by
 unfold rbytesL
 split
 ·exact (by decide:1<=4)
 ·split
  ·exact (by decide:2<=4)
  ·split
   ·exact (by decide:3<=4)
   ·exact Nat.le_refl 4
set_option maxHeartbeats 1000000 in
theorem z_pX (w:World) (s:ByteArray) (hl:s.size<=100000):
  Pu Tryz.prog z_cg #[.string s] w (.tuple #[.string (mkS (prepF s.data.toList).1),.int .i64 (prepF s.data.toList).2]):=by
 have g:=z_ez w (Un [])
 have hml:=z_ag
 have hlen:s.data.toList.length=s.size:=rfl
 have hLl:=z_lD s.data.toList _ 0 (Nat.le_refl _)
 obtain ⟨p,e,hpe⟩: ∃p e,prepF s.data.toList=(p,e):=⟨_,_,rfl⟩
 rw [hpe]
 have hpr:=z_s1 s.data.toList
 rw [hpe] at hpr
 have fin: ∀(q:List UInt8) (d:Int),(p,e)=(q,d)-> ∀ {n:Nat} {H:List Bk} {F:List Fact} (β:Va) (w':World),Sat (z_a0 w (Un [])) β n H F w'->Fin w [] (fun u Fs=>u= .tuple #[.string (mkS (p,e).1),.int .i64 (p,e).2]/\Fs=[]) (.tuple #[.string (mkS q),.int .i64 d]) w':=by
  intro q d h n H F β w' hs
  rw [h]
  exact (hs.keepB (List.nil_sublist _)).fin [] ⟨rfl,rfl⟩
 refine z_ad (cx:=z_a0 w (Un [])) g z_fU rfl rfl (β:=Va.z) [.c (.v (.string s))] 0 [] [] rfl rfl (Sat.start rfl) ?_
 refine z_ac [] (fun β w' hs=>z_tv w' s (by omega)) ?_
 rintro v Fs ⟨A,c,rfl,hc,hA,rfl⟩
 have hneg:=fun (x:Rn) (hx:x∈runesAt s.data.toList 0)=>z_oS hx
 have hvi:=z_li s.data.toList
 have hsv:=fun hv=>z_nS (l:=s.data.toList) hv
 generalize runesAt s.data.toList 0=L at *
 generalize validB s.data.toList=bv at *
 have hL2:L.length<=100000:=by omega
 refine z_ai 0 (fun k:Nat=>[(4,.c (.v (.slice A L.length c))),(12,.c (.v (.slice A L.length c))),(13,.c (.v (.int .i64 L.length))),(14,.c (.v (.int .i64 (k:Int))))]) (fun _=>[]) (fun _=>[sgnF A L c])
  (fun k=>k<=L.length/\ ∀x∈L.take k,x.2≠ -1) (fun k=>L.length - k) 0 ⟨Nat.zero_le _,fun x h=>by cases h⟩ (Ent.same ⟨rfl,rfl,rfl,rfl,trivial⟩ rfl) g ?_
 rintro k ⟨hk,hall⟩
 refine BIf.dec (fun hlt=>?_) (fun hge=>?_)
 ·have hlt0:(k:Int)<L.length:=hlt
  have hkl:k<L.length:=by omega
  obtain ⟨x,hx,hxm⟩:=at_lt hkl
  obtain ⟨ad,rfl⟩:=hA (by omega)
  have hsn:L.take (k+1)=L.take k++[x]:=by rw [List.take_add_one,hx];rfl
  refine ⟨ad,k,rfl,rfl,hkl,signV x,rfl,fun β w' hs=>signRd (z_am (hs.get 0 rfl)) hx,?_⟩
  refine BIf.dec (fun h0=>?_) (fun h0=>?_)
  ·have h00:x.2<0:=h0
   have hx1:x.2= -1:=by rcases hneg x hxm with h | h;exact h;omega
   have hbv: ¬bv=true:=fun q=>hvi.1 q x hxm hx1
   rw [if_neg hbv] at hpr
   exact fun β w' hs=>fin [] 4 hpr β w' hs
  ·have h00: ¬x.2<0:=h0
   refine ⟨((k+1:Nat):Int),by rw [wrap_i64 (by omega) (by omega)];rfl,?_⟩
   refine ⟨k+1,⟨by omega,fun y hy=>?_⟩,by omega,Ent.mk' ⟨rfl,rfl,rfl,rfl,trivial⟩ rfl (fun β w hs=>(hs.keepB (List.nil_sublist _)).lower)⟩
   rw [hsn] at hy
   rcases List.mem_append.1 hy with q | q
   ·exact hall y q
   ·obtain rfl:=List.mem_singleton.1 q
    omega
 ·have hge0: ¬(k:Int)<L.length:=hge
  obtain rfl:k=L.length:=by omega
  rw [List.take_length] at hall
  have hbv:bv=true:=hvi.2 hall
  rw [if_pos hbv] at hpr
  have hsv:=hsv hbv
  refine z_ai (ι:=PrR) 0 (fun i=>[(7,.c (.v (.slice i.A i.out.length i.c))),(22,.c (.v (.slice A L.length c))),(23,.c (.v (.int .i64 L.length))),(24,.c (.v (.int .i64 (i.k:Int))))]) (fun _=>[]) (fun i=>[browF z_ab i.A i.out i.c,sgnF A L c])
   (fun i=>i.k<=L.length/\prepR (L.map (·.2))=(prepR ((L.drop i.k).map (·.2))).map (i.out++ ·)/\i.out.length<=i.c/\i.out.length<=4*i.k) (fun i=>L.length - i.k) ⟨0,[],none,0⟩ ⟨Nat.zero_le _,by rw [List.drop_zero];cases prepR (L.map (·.2))<;>rfl,Nat.zero_le _,Nat.zero_le _⟩ (Ent.mk' ⟨rfl,rfl,rfl,rfl,trivial⟩ rfl (fun β w hs=>hs.nilRow _ _)) g ?_
  rintro ⟨k,out,A1,c1⟩ ⟨hk,hinv,hoc,hol⟩
  simp only at hk hinv hoc hol
  simp only
  refine BIf.dec (fun hlt=>?_) (fun hge=>?_)
  ·have hlt0:(k:Int)<L.length:=hlt
   have hkl:k<L.length:=by omega
   obtain ⟨x,hx,hxm⟩:=at_lt hkl
   obtain ⟨ad,rfl⟩:=hA (by omega)
   have hdr:L.drop k=x::L.drop (k+1):=by
    obtain ⟨h1,h2⟩:=List.getElem?_eq_some_iff.1 hx
    rw [List.drop_eq_getElem_cons h1,h2]
   rw [hdr,List.map_cons,prepR] at hinv
   obtain ⟨r,hxr,hsg,hr⟩:=hsv x hxm
   obtain ⟨z,hz⟩: ∃z,x.2=z:=⟨_,rfl⟩
   rw [hz] at hinv hxr
   obtain ⟨x1,x2⟩:=x
   simp only at hz
   subst hz
   refine ⟨ad,k,rfl,rfl,hkl,signV (x1,x2),rfl,fun β w' hs=>signRd (z_am (hs.get 1 rfl)) hx,?_⟩
   obtain ⟨b1,hb1⟩: ∃b1,rblank x2=b1:=⟨_,rfl⟩
   refine z_af (v:= .bool b1) (fun β w' hs=>by rw [<-hb1];exact z_th w' x2) ?_
   cases b1 with
   | true=>
    rw [if_pos hb1] at hinv
    intro b2
    refine ⟨1,out.length,out.length+1,out.map byte,[32].map byte,(out++[32]).map byte,rfl,fun β w hs=>z_am (hs.get 0 rfl),z_aq _,rfl,List.map_append.symm,by rw [z_ag];omega,by show (out.length+1)*1<=_;omega,?_⟩
    intro A' c' q1 q2 _
    refine ⟨((k+1:Nat):Int),by rw [wrap_i64 (by omega) (by omega)];rfl,?_⟩
    have hle:(out++[32]:List UInt8).length=out.length+1:=by simp
    refine ⟨⟨k+1,out++[32],A',c'⟩,⟨by show k+1<=_;omega,?_,by show (out++[32]:List UInt8).length<=c';omega,by show (out++[32]:List UInt8).length<=4*(k+1);omega⟩,by show L.length - (k+1)<L.length - k;omega,?_⟩
    ·rw [hinv]
     show _=(prepR ((L.drop (k+1)).map (·.2))).map (out++[32]++ ·)
     cases prepR ((L.drop (k+1)).map (·.2)) with
     | none=>rfl
     | some q=>simp
    ·simp only [browF,hle]
     exact Ent.mk' ⟨rfl,rfl,rfl,rfl,trivial⟩ rfl (fun β w hs=>((hs.perm [1,2]).keepB (List.nil_sublist _)).lower)
   | false=>
    rw [if_neg (by rw [hb1];decide)] at hinv
    obtain ⟨b2,hb2⟩: ∃b2,rgoes x2=b2:=⟨_,rfl⟩
    refine z_af (v:= .bool b2) (fun β w' hs=>by rw [<-hb2];exact z_va w' x2) ?_
    cases b2 with
    | true=>
     rw [if_pos hb2] at hinv
     refine ⟨((k+1:Nat):Int),by rw [wrap_i64 (by omega) (by omega)];rfl,?_⟩
     exact ⟨⟨k+1,out,A1,c1⟩,⟨by show k+1<=_;omega,hinv,hoc,by show out.length<=4*(k+1);omega⟩,by show L.length - (k+1)<L.length - k;omega,Ent.mk' ⟨rfl,rfl,rfl,rfl,trivial⟩ rfl (fun β w hs=>(hs.keepB (List.nil_sublist _)).lower)⟩
    | false=>
     rw [if_neg (by rw [hb2];decide)] at hinv
     obtain ⟨b3,hb3⟩: ∃b3,rbars x2=b3:=⟨_,rfl⟩
     refine z_af (v:= .bool b3) (fun β w' hs=>by rw [<-hb3];exact z_u4 w' x2 (by omega)) ?_
     cases b3 with
     | true=>
      rw [if_pos hb3] at hinv
      have hno:prepR (L.map (·.2))=none:=hinv
      rw [hno] at hpr
      exact fun β w' hs=>fin [] 5 hpr β w' hs
     | false=>
      rw [if_neg (by rw [hb3];decide)] at hinv
      refine z_ac [] (fun β w' hs=>z_sT w' r x2 hxr.symm hsg) ?_
      rintro v Fs ⟨A2,c2,rfl,hc2,hm2,rfl⟩
      have hrl:=z_ok r
      rw [hxr,Int.toNat_natCast] at hinv
      generalize rbytesL r=bs at *
      refine ⟨1,out.length,out.length+bs.length,out.map byte,bs.map byte,(out++bs).map byte,rfl,fun β w hs=>z_am (hs.get 0 rfl),z_aq _,rfl,List.map_append.symm,by rw [z_ag];omega,by show (out.length+bs.length)*1<=_;omega,?_⟩
      intro A' c' q1 q2 _
      refine ⟨((k+1:Nat):Int),by rw [wrap_i64 (by omega) (by omega)];rfl,?_⟩
      have hle:(out++bs).length=out.length+bs.length:=List.length_append
      refine ⟨⟨k+1,out++bs,A',c'⟩,⟨by show k+1<=_;omega,?_,by show (out++bs).length<=c';omega,by show (out++bs).length<=4*(k+1);omega⟩,by show L.length - (k+1)<L.length - k;omega,?_⟩
      ·rw [hinv]
       show _=(prepR ((L.drop (k+1)).map (·.2))).map (out++bs++ ·)
       cases prepR ((L.drop (k+1)).map (·.2)) with
       | none=>rfl
       | some q=>simp
      ·simp only [browF,hle]
       exact Ent.mk' ⟨rfl,rfl,rfl,rfl,trivial⟩ rfl (fun β w hs=>((hs.perm [1,2]).keepB (List.nil_sublist _)).lower)
  ·have hge0: ¬(k:Int)<L.length:=hge
   obtain rfl:k=L.length:=by omega
   rw [List.drop_length] at hinv
   have hso:prepR (L.map (·.2))=some out:=by rw [hinv];simp [prepR]
   rw [hso] at hpr
   refine ⟨out,fun β w hs=>z_am (hs.get 0 rfl),?_⟩
   exact fun β w' hs=>fin out 0 hpr β w' hs
theorem z_tH (w:World) (s:ByteArray) (most:Nat) (hl:s.size<=100000):
  Pu Tryz.prog z_bB #[.string s,.int .i64 (most:Int)] w (.tuple #[.string (mkS (sizF s.data.toList most).1),.int .i64 (sizF s.data.toList most).2]):=by
 have g:=z_fC w (Un [])
 refine z_ad (cx:=z_bg w (Un [])) g z_hm rfl rfl (β:=Va.z) [.c (.v (.string s)),.c (.v (.int .i64 (most:Int)))] 0 [] [oldF w] rfl rfl (z_aw rfl) ?_
 obtain ⟨p,e,hpe⟩: ∃p e,prepF s.data.toList=(p,e):=⟨_,_,rfl⟩
 have hz:sizF s.data.toList most=if e=0 then if p=[] then ([],2) else if most<p.length then ([],3) else (p,0) else ([],e):=by unfold sizF;rw [hpe]
 refine z_af (v:= .tuple #[.string (mkS p),.int .i64 e]) (fun β w' hs=>by
  have h:=z_pX w' s hl
  rw [hpe] at h
  exact h) ?_
 have fin: ∀(q:List UInt8) (d:Int),sizF s.data.toList most=(q,d)-> ∀ {n:Nat} {H:List Bk} {F:List Fact} (β:Va) (w':World),Sat (z_bg w (Un [])) β n H F w'->Fin w [] (fun u Fs=>u= .tuple #[.string (mkS (sizF s.data.toList most).1),.int .i64 (sizF s.data.toList most).2]/\Fs=[]) (.tuple #[.string (mkS q),.int .i64 d]) w':=by
  intro q d h n H F β w' hs
  rw [h]
  exact (hs.keepB (List.nil_sublist _)).fin [] ⟨rfl,rfl⟩
 have hsz:(mkS p).size=p.length:=by simp [mkS,ByteArray.size]
 refine BIf.not (BIf.dec (fun he=>?_) (fun he=>?_))
 ·have he0:e=0:=he
  rw [if_pos he0] at hz
  refine BIf.dec (fun hp=>?_) (fun hp=>?_)
  ·have hp0:((mkS p).size:Int)=0:=hp
   rw [hsz] at hp0
   have hp1:p=[]:=List.length_eq_zero_iff.1 (by omega)
   rw [if_pos hp1] at hz
   exact fun β w' hs=>fin [] 2 hz β w' hs
  ·have hp0: ¬((mkS p).size:Int)=0:=hp
   rw [hsz] at hp0
   rw [if_neg (fun q=>hp0 (by rw [q];rfl))] at hz
   refine BIf.dec (fun hm=>?_) (fun hm=>?_)
   ·have hm0:(most:Int)<((mkS p).size:Int):=hm
    rw [hsz] at hm0
    rw [if_pos (by omega)] at hz
    exact fun β w' hs=>fin [] 3 hz β w' hs
   ·have hm0: ¬(most:Int)<((mkS p).size:Int):=hm
    rw [hsz] at hm0
    rw [if_neg (by omega)] at hz
    exact fun β w' hs=>fin p 0 hz β w' hs
 ·have he0: ¬e=0:=he
  rw [if_neg he0] at hz
  exact fun β w' hs=>fin [] e hz β w' hs
end Go.Proofs.YtloeaiafphkjnaaGreatDoor.Sx
namespace Go.Proofs.YtloeaiafphkjnaaGreatDoor.Sx
open Go Sha
attribute [local irreducible] Calls
theorem z_sj (w:World) (A:Option Addr) (n c:Nat) (i:Int):Pu Tryz.prog z_cB #[.slice A n c,.int .i64 i] w (.bool (decide (0<n/\n<=32/\0<i/\i<=64))):=by
 refine pu_of (z_aL (cx:=z_cm w None_) (z_eU w None_) z_gn rfl rfl (β:=Va.z) [.c (.v (.slice A n c)),.c (.v (.int .i64 i))] 0 [] [] rfl rfl (Sat.start rfl) ?_)
 refine BIf.dec (fun q0=>?_) (fun q0=>?_)
 ·refine BIf.dec (fun q1=>?_) (fun q1=>?_)
  ·refine BIf.dec (fun q2=>?_) (fun q2=>?_)
   ·intro β w' hs
    refine ⟨?_,hs.chg⟩
    show Value.bool (decide (i<=64))=_
    congr 1
    exact decide_eq_decide.2 ⟨fun h=>⟨by omega,by omega,q2,h⟩,fun h=>h.2.2.2⟩
   ·intro β w' hs
    refine ⟨?_,hs.chg⟩
    show Value.bool false=_
    congr 1
    exact (decide_eq_false (fun h=>q2 h.2.2.1)).symm
  ·intro β w' hs
   refine ⟨?_,hs.chg⟩
   show Value.bool false=_
   congr 1
   exact (decide_eq_false (fun h=>q1 (by have:=h.2.1;omega))).symm
 ·intro β w' hs
  refine ⟨?_,hs.chg⟩
  show Value.bool false=_
  congr 1
  exact (decide_eq_false (fun h=>q0 (by have:=h.1;omega))).symm
theorem z_uM (w:World) (x:SecA):Pu Tryz.prog z_by #[x.val] w (.bool (decide ((0<x.s0.length/\x.s0.length<=32/\0<x.it/\x.it<=64)/\x.s1.length=32/\x.s2.length=32/\x.s3.length=32))):=by
 refine pu_of (z_aL (cx:=z_cA w None_) (z_fj w None_) z_hj rfl rfl (β:=Va.z) [.agg x.cells] 0 [] [] rfl rfl (Sat.start rfl) ?_)
 refine z_af (fun β w' hs=>z_sj w' x.A0 x.s0.length x.c0 x.it) ?_
 have e: ∀(n:Nat),(n:Int)=32↔n=32:=fun n=>by omega
 refine BIf.dec (fun q0=>?_) (fun q0=>?_)
 ·refine BIf.dec (fun q1=>?_) (fun q1=>?_)
  ·refine BIf.dec (fun q2=>?_) (fun q2=>?_)
   ·intro β w' hs
    refine ⟨?_,hs.chg⟩
    show Value.bool (decide ((x.s3.length:Int)=32))=_
    congr 1
    exact decide_eq_decide.2 ⟨fun h=>⟨q0,(e _).1 q1,(e _).1 q2,(e _).1 h⟩,fun h=>(e _).2 h.2.2.2⟩
   ·intro β w' hs
    refine ⟨?_,hs.chg⟩
    show Value.bool false=_
    congr 1
    exact (decide_eq_false (fun h=>q2 ((e _).2 h.2.2.1))).symm
  ·intro β w' hs
   refine ⟨?_,hs.chg⟩
   show Value.bool false=_
   congr 1
   exact (decide_eq_false (fun h=>q1 ((e _).2 h.2.1))).symm
 ·intro β w' hs
  refine ⟨?_,hs.chg⟩
  show Value.bool false=_
  congr 1
  exact (decide_eq_false (fun h=>q0 h.1)).symm
end Go.Proofs.YtloeaiafphkjnaaGreatDoor.Sx
namespace Go.Proofs.YtloeaiafphkjnaaGreatDoor.Sx
open Go
attribute [local irreducible] Calls
set_option maxHeartbeats 1000000 in
theorem z_mX (w:World) (s:ByteArray) (hl:s.size<=100000):Pu Tryz.prog z_cZ #[.string s] w (.bool (plainF s.data.toList)):=by
  have g:=z_e7 w (Un [])
  have hlen:s.data.toList.length=s.size:=rfl
  refine z_ad (cx:=z_be w (Un [])) g z_hq rfl rfl (β:=Va.z) [.c (.v (.string s))] 0 [] [] rfl rfl (Sat.start rfl) ?_
  refine z_ai 0 (fun k:Nat=>[(0,.c (.v (.string s))),(3,.c (.v (.int .i64 (k:Int))))]) (fun _=>[]) (fun _=>[])
    (fun k=>k<=s.size/\(s.data.toList.take k).all okc=true) (fun k=>s.size - k) 0 ⟨Nat.zero_le _,rfl⟩ (Ent.same ⟨rfl,rfl,trivial⟩ rfl) g ?_
  rintro k ⟨hk,hall⟩
  refine BIf.dec (fun hlt=>?_) (fun hge=>?_)
  · have hlt0:(k:Int)<s.size:=hlt
    have hkl:k<s.size:=by omega
    obtain ⟨x,hx,hxm⟩:=at_lt (l:=s.data.toList) (k:=k) (by omega)
    obtain ⟨z,hz⟩: ∃z:Int,(x.toNat:Int)=z:=⟨_,rfl⟩
    have hsn:okc x=true->(s.data.toList.take (k+1)).all okc=true:=fun h=>by rw [List.take_add_one,hx,List.all_append,hall];simp [h]
    have bad:okc x=false-> ∀ {n:Nat} {H:List Bk} {F:List Fact} (β:Va) (w':World),Sat (z_be w (Un [])) β n H F w'->Fin w [] (fun u Fs=>u= .bool (plainF s.data.toList)/\Fs=[]) (.bool false) w':=by
      intro h n H F β w' hs
      refine (hs.keepB (List.nil_sublist _)).fin [] ⟨?_,rfl⟩
      have:s.data.toList.all okc=false:=by
        rw [List.all_eq_false]
        exact ⟨x,hxm,by rw [h];decide⟩
      unfold plainF
      rw [this]
      rfl
    refine ⟨k,x,rfl,hx,?_⟩
    have hb:byte x= .int .u8 z:=by rw [<-hz];rfl
    rw [hb]
    clear hb
    repeat' first
      | refine BIf.dec (fun h=>?_) (fun h=>?_)
      | refine BIf.not (BIf.dec (fun h=>?_) (fun h=>?_))
    all_goals first
      | exact fun β w' hs=>bad (by simp only [okc,decide_eq_false_iff_not];omega) β w' hs
      | (refine ⟨((k+1:Nat):Int),by rw [wrap_i64 (by omega) (by omega)];rfl,?_⟩
         exact ⟨k+1,⟨hkl,hsn (by simp only [okc,decide_eq_true_eq];omega)⟩,by omega,Ent.same ⟨rfl,rfl,trivial⟩ rfl⟩)
  · have hge0: ¬(k:Int)<s.size:=hge
    obtain rfl:k=s.size:=by omega
    rw [<-hlen,List.take_length] at hall
    have hpl:plainF s.data.toList=(decide (s.data.toList≠[])&&decide (s.data.toList.length<=32)):=by unfold plainF;rw [hall,Bool.true_and]
    have hne:s.data.toList≠[]↔1<=s.size:=by
      rw [<-hlen]
      exact ⟨fun h=>List.length_pos_iff.2 h,fun h=>List.length_pos_iff.1 h⟩
    refine BIf.dec (fun h1=>?_) (fun h1=>?_)
    · have h10:(1:Int)<=s.size:=h1
      intro β w' hs
      refine (hs.keepB (List.nil_sublist _)).fin [] ⟨?_,rfl⟩
      rw [hpl,decide_eq_true (hne.2 (by omega)),Bool.true_and,hlen]
      show Value.bool (decide ((s.size:Int)<=32))=_
      congr 1
      exact decide_eq_decide.2 (by omega)
    · have h10: ¬(1:Int)<=s.size:=h1
      intro β w' hs
      refine (hs.keepB (List.nil_sublist _)).fin [] ⟨?_,rfl⟩
      rw [hpl,decide_eq_false (fun q=>h10 (by have:=hne.1 q;omega)),Bool.false_and]
      rfl
def poF (P:List Fact):Fact where
 own:=true
 D:=fun k=> ∃f∈P,f.D k
 p:=fun w=> ∀f∈P,f.p w
 st:=fun w w' hs h f hf=>f.st w w' (fun k hk=>hs k ⟨f,hf,hk⟩) (h f hf)
def inP (P:List Fact) (c:Crd):Prop:=secF c.sec.x c.sec.a∈P/\rdF 1 c.rA c.roles.length (strs c.roles)∈P/\c.roles.length<=c.rc
structure RS where
 b:Nat
 tA:Option Addr
 tc:Nat
 ts:List ByteArray
 lA:Option Addr
 lc:Nat
 cs:List Crd
 ps:List Fact
 last:Nat
 reads:Int
def RS.vs (R:RS):List Value:=[.slice R.tA R.ts.length R.tc,.slice R.lA R.cs.length R.lc,.int .u64 (R.last:Int),.int .u64 R.reads]
abbrev crowF (A:Option Addr) (cs:List Crd) (c:Nat):Fact:=rowF z_aj 10 (.slice A cs.length c) cs.length (cs.flatMap Crd.vs)
def RS.fs (R:RS):List Fact:=[bkF R.b z_aR R.vs,strsF R.tA R.ts,crowF R.lA R.cs R.lc,poF R.ps]
def rsF (R:RS):Fact:=sepF R.fs
theorem rs_bk {R:RS} {w:World} (h:(rsF R).p w):(bkF R.b z_aR R.vs).p w:=h.1 _ (by simp [RS.fs])
theorem rs_ts {R:RS} {w:World} (h:(rsF R).p w):Rd 1 R.tA R.ts.length (strs R.ts) w:=h.1 (strsF R.tA R.ts) (by simp [RS.fs])
theorem rs_rd {R:RS} {w:World} (h:(rsF R).p w):Rd 10 R.lA R.cs.length (R.cs.flatMap Crd.vs) w:=z_am (h.1 (crowF R.lA R.cs R.lc) (by simp [RS.fs]))
theorem rs_po {R:RS} {w:World} (h:(rsF R).p w):(poF R.ps).p w:=h.1 (poF R.ps) (by simp [RS.fs])
theorem z_lA (c:Crd):c.vs.length=10:=rfl
theorem z_mr {w:World} {A:Option Addr} {ad:Addr} {cs:List Crd} (h:Rd 10 A cs.length (cs.flatMap Crd.vs) w) (hA:A=some ad) {k:Nat} {c:Crd} (hc:cs[k]?=some c): ∀j u,c.vs[j]?=some u->w.cell? ((ad.add (k*10)).add j)=some u:=by
 obtain ⟨hil,hie⟩:=List.getElem?_eq_some_iff.1 hc
 have h2:=Rd.elem (f:=Crd.vs) z_lA h hA hil
 rw [hie] at h2
 exact h2
def isU (t u:ByteArray) (c:Crd):Prop:=(nameA u).2=0/\c.tenant=t/\c.user=(nameA u).1
def FindR (cs:List Crd) (t u:ByteArray) (i:Int):Prop:=(i= -1/\ ∀c∈cs,¬isU t u c)\/ ∃(k:Nat) (c:Crd),i=(k:Int)/\cs[k]?=some c/\isU t u c/\ ∀d∈cs.take k,¬isU t u d
theorem rsz_c (w:World) (u:ByteArray) (hu:u.size<=100000):Pu Tryz.prog z_bB #[.string u,.int .i64 32] w (.tuple #[.string (nameA u).1,.int .i64 (nameA u).2]):=z_tH w u 32 hu
theorem z_up (w:World) (R:RS) (t u:ByteArray) (h:(rsF R).p w) (hl: ∀k,(rsF R).D k->k<w.heap.size) (hu:u.size<=100000) (hn:R.cs.length<=1000000):
  Con Tryz.prog z_bN #[ptr R.b,.string t,.string u] w [] fun v Fs=> ∃i:Int,v= .int .i64 i/\FindR R.cs t u i/\Fs=[]:=by
 have g:=z_fP w (Un [])
 refine z_ad (cx:=z_c9 w (Un [])) g z_h7 rfl rfl (β:=Va.z) [.c (.v (ptr R.b)),.c (.v (.string t)),.c (.v (.string u))] 0 [] [oldF w] rfl rfl (z_aw rfl) ?_
 have ho: ∀w',(oldF w).p w'->(rsF R).p w':=fun w' h2=>z_cQ h hl h2
 refine z_af (fun β w' hs=>rsz_c w' u hu) ?_
 obtain ⟨p,e,hpe⟩: ∃p e,nameA u=(p,e):=⟨_,_,rfl⟩
 have hU: ∀c,isU t u c↔(e=0/\c.tenant=t/\c.user=p):=fun c=>by unfold isU;rw [hpe]
 rw [hpe]
 refine BIf.dec (fun he=>?_) (fun he=>?_)
 rotate_left
 ·have he0: ¬e=0:=he
  intro β w' hs
  exact hs.fin [] ⟨-1,rfl,.inl ⟨rfl,fun c _ q=>he0 ((hU c).1 q).1⟩,rfl⟩
 have he0:e=0:=he
 refine ⟨.slice R.lA R.cs.length R.lc,fun β w' hs=>bkc (rs_bk (ho w' (hs.get 0 rfl))) rfl,?_⟩
 refine z_ai 0 (fun i:Nat=>[(1,.c (.v (.string t))),(7,.c (.v (.string p))),(25,.c (.v (.slice R.lA R.cs.length R.lc))),(26,.c (.v (.int .i64 R.cs.length))),(27,.c (.v (.int .i64 (i:Int))))]) (fun _=>[]) (fun _=>[oldF w])
  (fun i=>i<=R.cs.length/\ ∀c∈R.cs.take i,¬isU t u c) (fun i=>R.cs.length - i) 0 ⟨Nat.zero_le _,fun c h=>by cases h⟩ (Ent.same ⟨rfl,rfl,rfl,rfl,rfl,trivial⟩ rfl) g ?_
 rintro i ⟨hi,hpre⟩
 refine BIf.dec (fun hlt=>?_) (fun hge=>?_)
 ·have hlt0:(i:Int)<R.cs.length:=hlt
  obtain ⟨c,hc,hcm⟩:=at_lt (show i<R.cs.length by omega)
  obtain ⟨ad,hA,_⟩:=(rs_rd h).2 (by omega)
  refine ⟨ad,i,hA,rfl,by omega,c.vs,rfl,fun β w' hs=>z_mr (rs_rd (ho w' (hs.get 0 rfl))) hA hc,?_⟩
  have next: ¬isU t u c-> ∀d∈R.cs.take (i+1),¬isU t u d:=fun hn d hd=>by
   rw [List.take_add_one,hc] at hd
   rcases List.mem_append.1 hd with hd | hd
   ·exact hpre d hd
   ·obtain rfl:=List.mem_singleton.1 hd
    exact hn
  refine BIf.dec (fun h1=>?_) (fun h1=>?_)
  ·have h10:c.tenant=t:=h1
   refine BIf.dec (fun h2=>?_) (fun h2=>?_)
   ·have h20:c.user=p:=h2
    intro β w' hs
    exact (hs.keepB (List.nil_sublist _)).fin [] ⟨(i:Int),rfl,.inr ⟨i,c,rfl,hc,(hU c).2 ⟨he0,h10,h20⟩,hpre⟩,rfl⟩
   ·have h20: ¬c.user=p:=h2
    refine ⟨((i+1:Nat):Int),by rw [wrap_i64 (by omega) (by omega)];rfl,?_⟩
    exact ⟨i+1,⟨by omega,next fun q=>h20 ((hU c).1 q).2.2⟩,by omega,Ent.mk' ⟨rfl,rfl,rfl,rfl,rfl,trivial⟩ rfl (fun β w' hs=>(hs.keepB (List.nil_sublist _)).lower)⟩
  ·have h10: ¬c.tenant=t:=h1
   refine ⟨((i+1:Nat):Int),by rw [wrap_i64 (by omega) (by omega)];rfl,?_⟩
   exact ⟨i+1,⟨by omega,next fun q=>h10 ((hU c).1 q).2.1⟩,by omega,Ent.mk' ⟨rfl,rfl,rfl,rfl,rfl,trivial⟩ rfl (fun β w' hs=>(hs.keepB (List.nil_sublist _)).lower)⟩
 ·have hge0: ¬(i:Int)<R.cs.length:=hge
  rw [List.take_of_length_le (by omega)] at hpre
  intro β w' hs
  exact hs.fin [] ⟨-1,rfl,.inl ⟨rfl,hpre⟩,rfl⟩
structure RA where
 ts:List ByteArray
 cs:List ACrd
 last:Nat
 reads:Int
def RS.a (R:RS):RA:=⟨R.ts,R.cs.map Crd.a,R.last,R.reads⟩
structure RS.Wf (R:RS):Prop where
 tc:R.ts.length<=R.tc
 lc:R.cs.length<=R.lc
 tn:R.ts.length<=1000
 ln:R.cs.length<=1000
 ris:R.ts.Pairwise tlt
 mem: ∀c∈R.cs,inP R.ps c
 ro: ∀c∈R.cs,c.roles.Pairwise tlt/\c.roles.length<=8
def rsOut (R:RS) (r:Int×RA) (v:Value) (Fs:List Fact):Prop:= ∃R':RS,v= .int .i64 r.1/\R'.a=r.2/\R'.b=R.b/\R'.ts.length<=R'.tc/\R'.cs.length<=R'.lc/\(∀c∈R'.cs,inP R'.ps c)/\(∀f∈R.ps,f∈R'.ps)/\Fs=[rsF R']
theorem z_aA {R:RS} {r:Int×RA} {e:Int} (hw:R.Wf) (h:r=(e,R.a)):rsOut R r (.int .i64 e) [rsF R]:=⟨R,by rw [h],by rw [h],rfl,hw.tc,hw.lc,hw.mem,fun _ h=>h,rfl⟩
theorem z_aM {js:List Nat}: ∀ {F:List Fact} {i:Nat},(∀j∈js,j<i)->dropIx js i F=F
 | [],_,_=>rfl
 | f::r,i,h=>by
  have hm:memb js i=false:=by
   cases q:memb js i with
   | false=>rfl
   | true=>exact absurd (h i (z_kz q)) (Nat.lt_irrefl _)
  simp only [dropIx,hm]
  rw [z_aM (fun j hj=>Nat.lt_succ_of_lt (h j hj))]
theorem Sat.rsTs {cx:Cx} {β:Va} {n:Nat} {H:List Bk} {w:World} {R:RS} {ts:List ByteArray} {A:Option Addr} {c:Nat} {F:List Fact} (h:Sat cx β n H (srowF A ts c::rsF R::F) w):
  ∃w',(storeCells ((⟨R.b,0,none⟩:Addr).add 0) [.slice A ts.length c] 0).run cx.P w= .ok () w'/\Sat cx β n H (rsF {R with tA:=A,tc:=c,ts:=ts}::F) w':=by
 have h1:=(h.unsep 1 rfl).strsRow 4 rfl
 obtain ⟨w2,e1,e2⟩:=h1.bkSet 0 (o:=0) (us:=[.slice A ts.length c]) rfl (by show 1<=4;decide) (fun u hu=>by obtain rfl:=List.mem_singleton.1 hu;rfl)
 refine ⟨w2,e1,?_⟩
 have h2:=e2.sep [0,4,2,3] rfl ⟨rfl,rfl,rfl,rfl,trivial⟩
 have e0:dropIx [1] 2 F=F:=z_aM (by decide)
 have e3:dropIx [0,4,2,3] 5 F=F:=z_aM (by decide)
 refine h2.weaken (List.Sublist.refl _) ?_
 show List.Sublist _ (_::strsF R.tA R.ts::dropIx [0,4,2,3] 5 (dropIx [1] 2 F))
 rw [e0,e3]
 exact List.Sublist.cons_cons _ (List.sublist_cons_self _ _)
def addTR (X:RA) (t:ByteArray):Int×RA:=
 if plainF t.data.toList=false then (5,X) else if hasT X.ts t=true then (7,X) else if 8<=X.ts.length then (8,X) else (0,{X with ts:=insT X.ts (rank X.ts t) t})
theorem z_uU (w:World) (R:RS) (t:ByteArray) (hw:R.Wf) (ht:t.size<=100000) (hm:Mem w [rsF R]):Con Tryz.prog z_bR #[ptr R.b,.string t] w [rsF R] (rsOut R (addTR R.a t)):=by
 have g:=z_d1 w (Un [rsF R])
 have htn:=hw.tn
 refine z_ad (cx:=z_bE w (Un [rsF R])) g z_eO rfl rfl (β:=Va.z) [.c (.v (ptr R.b)),.c (.v (.string t))] 0 [] [rsF R] rfl rfl (hm.sat0 rfl (fun f hf _ k hk=>⟨f,hf,hk⟩)) ?_
 refine z_af (fun β w' hs=>z_mX w' t ht) ?_
 have hr:addTR R.a t=if plainF t.data.toList=false then (5,R.a) else if hasT R.ts t=true then (7,R.a) else if 8<=R.ts.length then (8,R.a) else (0,{R.a with ts:=insT R.ts (rank R.ts t) t}):=rfl
 generalize plainF t.data.toList=bp at hr
 cases bp with
 | false=>
  intro β w' hs
  exact hs.fin [0] (z_aA hw hr)
 | true=>
 rw [if_neg (by decide)] at hr
 refine ⟨.slice R.tA R.ts.length R.tc,fun β w' hs=>bkc (rs_bk (hs.get 0 rfl)) rfl,?_⟩
 refine z_af (fun β w' hs=>inT_c w' R.tA R.ts R.tc t (rs_ts (hs.get 0 rfl)) (by omega)) ?_
 generalize hasT R.ts t=bh at hr
 cases bh with
 | true=>
  intro β w' hs
  exact hs.fin [0] (z_aA hw hr)
 | false=>
 rw [if_neg (by decide)] at hr
 refine ⟨.slice R.tA R.ts.length R.tc,fun β w' hs=>bkc (rs_bk (hs.get 0 rfl)) rfl,?_⟩
 refine BIf.dec (fun hf=>?_) (fun hf=>?_)
 ·have hf0:(8:Int)<=(R.ts.length:Int):=hf
  rw [if_pos (by omega)] at hr
  intro β w' hs
  exact hs.fin [0] (z_aA hw hr)
 have hf0: ¬(8:Int)<=(R.ts.length:Int):=hf
 rw [if_neg (by omega)] at hr
 refine ⟨.slice R.tA R.ts.length R.tc,fun β w' hs=>bkc (rs_bk (hs.get 0 rfl)) rfl,?_⟩
 refine z_ac [] (fun β w' hs=>put_c w' R.tA R.ts R.tc t (rs_ts (hs.get 0 rfl)) (by omega) hw.tc hw.ris) ?_
 rintro v Fs ⟨A,c,rfl,hc,rfl⟩
 refine ⟨[rsF {R with tA:=A,tc:=c,ts:=insT R.ts (rank R.ts t) t}],fun β w' hs=>hs.rsTs,?_⟩
 intro β w' hs
 exact hs.fin [0] ⟨{R with tA:=A,tc:=c,ts:=insT R.ts (rank R.ts t) t},by rw [hr];rfl,by rw [hr];rfl,rfl,hc,hw.lc,hw.mem,fun _ h=>h,rfl⟩
theorem z_ls (c:Crd): ∀u∈c.vs,u.oneCell'=true:=fun u hu=>by
 simp only [Crd.vs,Sec.vs,List.mem_cons,List.mem_append,List.not_mem_nil,or_false] at hu
 rcases hu with rfl | rfl | (rfl | rfl | rfl | rfl | rfl) | rfl | rfl | rfl<;>rfl
theorem z_g0 (cs:List Crd): ∀u∈cs.flatMap Crd.vs,u.oneCell'=true:=fun u hu=>by
 obtain ⟨c,_,hc⟩:=List.mem_flatMap.1 hu
 exact z_ls c u hc
theorem z_nV: ∀(cs:List Crd) (i:Nat),(cs.flatMap Crd.vs).drop (i*10)=(cs.drop i).flatMap Crd.vs
 | cs,0=>by simp
 | [],i+1=>by simp
 | c::r,i+1=>by
  rw [List.flatMap_cons,List.drop_append,List.drop_of_length_le (by rw [z_lA];omega),z_lA,List.nil_append,List.drop_succ_cons,<-z_nV r i]
  congr 1
  omega
theorem z_nm: ∀(cs:List Crd) (i:Nat),(cs.flatMap Crd.vs).take (i*10)=(cs.take i).flatMap Crd.vs
 | cs,0=>by simp
 | [],i+1=>by simp
 | c::r,i+1=>by
  rw [List.flatMap_cons,List.take_append,List.take_of_length_le (by rw [z_lA];omega),z_lA,List.take_succ_cons,List.flatMap_cons,<-z_nm r i]
  congr 2
  omega
theorem z_pH {w:World} {A:Option Addr} {cs:List Crd} (h:Rd 10 A cs.length (cs.flatMap Crd.vs) w) {c i j:Nat} (hn:cs.length<=c) (hij:i<=j) (hj:j<=cs.length):Rd 10 (cutA A c i 10) (j - i) (((cs.drop i).take (j - i)).flatMap Crd.vs) w:=by
 have h1:=h.cutN hn hij hj
 rw [z_nV,z_nm] at h1
 exact h1
theorem Sat.rsLs {cx:Cx} {β:Va} {n:Nat} {H:List Bk} {w:World} {R:RS} {cs:List Crd} {A:Option Addr} {c:Nat} {F:List Fact} (h:Sat cx β n H (crowF A cs c::rsF R::F) w):
  ∃w',(storeCells ((⟨R.b,0,none⟩:Addr).add 1) [.slice A cs.length c] 0).run cx.P w= .ok () w'/\Sat cx β n H (rsF {R with lA:=A,lc:=c,cs:=cs}::F) w':=by
 have h1:=h.unsep 1 rfl
 obtain ⟨w2,e1,e2⟩:=h1.bkSet 0 (o:=1) (us:=[.slice A cs.length c]) rfl (by show 2<=4;decide) (fun u hu=>by obtain rfl:=List.mem_singleton.1 hu;rfl)
 refine ⟨w2,e1,?_⟩
 have h2:=e2.sep [0,1,4,3] rfl ⟨rfl,rfl,rfl,rfl,trivial⟩
 have e0:dropIx [1] 2 F=F:=z_aM (by decide)
 have e3:dropIx [0,1,4,3] 5 F=F:=z_aM (by decide)
 refine h2.weaken (List.Sublist.refl _) ?_
 show List.Sublist _ (_::crowF R.lA R.cs R.lc::dropIx [0,1,4,3] 5 (dropIx [1] 2 F))
 rw [e0,e3]
 exact List.Sublist.cons_cons _ (List.sublist_cons_self _ _)
def inTs (cs:List Crd) (t:ByteArray):List Crd:=cs.filter fun c=>decide (c.tenant=t)
def inTA (cs:List ACrd) (t:ByteArray):List ACrd:=cs.filter fun c=>decide (c.tenant=t)
theorem z_tZ (cs:List Crd) (t:ByteArray):(inTs cs t).map Crd.a=inTA (cs.map Crd.a) t:=by
 unfold inTs inTA
 rw [List.filter_map]
 rfl
theorem z_s4 (cs:List Crd) (t:ByteArray):(inTs cs t).length=(inTA (cs.map Crd.a) t).length:=by rw [<-z_tZ,List.length_map]
theorem Con.none {P:Program} {f:FuncId} {args:Array Value} {w:World} {Gs:List Fact} {R R':Value->List Fact->Prop} (h:Con P f args w Gs R) (hr: ∀v Fs,R v Fs->R' v []):Con P f args w Gs R':=by
 refine Calls.mono h ?_
 rintro e w' ⟨v,rfl,Fs,h1,h2,_⟩
 exact ⟨v,rfl,[],hr v Fs h1,h2,Mem.none _,trivial,fun _ h=>by cases h⟩
set_option maxHeartbeats 1000000 in
theorem z_nG (w:World) (R:RS) (t:ByteArray) (h:(rsF R).p w) (hl: ∀k,(rsF R).D k->k<w.heap.size) (hn:R.cs.length<=1000):
  Con Tryz.prog z_bD #[ptr R.b,.string t] w [] fun v Fs=> ∃A c,v= .slice A (inTs R.cs t).length c/\(0<(inTs R.cs t).length-> ∃ad,A=some ad)/\Fs=[crowF A (inTs R.cs t) c]:=by
 have g:=z_fD w (Un [])
 have hml:=z_ag
 refine z_ad (cx:=z_cz w (Un [])) g z_he rfl rfl (β:=Va.z) [.c (.v (ptr R.b)),.c (.v (.string t))] 0 [] [oldF w] rfl rfl (z_aw rfl) ?_
 have ho: ∀w',(oldF w).p w'->(rsF R).p w':=fun w' h2=>z_cQ h hl h2
 refine ⟨.slice R.lA R.cs.length R.lc,fun β w' hs=>bkc (rs_bk (ho w' (hs.get 0 rfl))) rfl,?_⟩
 obtain ⟨out,hout⟩: ∃out:Nat->List Crd,∀i,out i=inTs (R.cs.take i) t:=⟨fun i=>_,fun i=>rfl⟩
 have hol: ∀i,(out i).length<=1000:=fun i=>by
  rw [hout]
  exact Nat.le_trans (List.length_filter_le _ _) (by rw [List.length_take];omega)
 have h00:out 0=[]:=by rw [hout];rfl
 refine z_ai (ι:=WoJ) 0 (fun j=>[(1,.c (.v (.string t))),(5,.c (.v (.slice j.A (out j.i).length j.c))),(13,.c (.v (.slice R.lA R.cs.length R.lc))),(14,.c (.v (.int .i64 (R.cs.length:Int)))),(15,.c (.v (.int .i64 (j.i:Int))))]) (fun _=>[]) (fun j=>[crowF j.A (out j.i) j.c,oldF w])
  (fun j=>j.i<=R.cs.length/\(out j.i).length<=j.c) (fun j=>R.cs.length - j.i) ⟨0,none,0⟩ ⟨Nat.zero_le _,by rw [h00];exact Nat.le_refl _⟩ (Ent.mk' ⟨rfl,by show some (SV.c (.v (.slice none 0 0)))=some (SV.c (.v (.slice none (out 0).length 0)));rw [h00];rfl,rfl,rfl,rfl,trivial⟩ rfl (fun β w' hs=>by
   have h:=hs.nilRow z_aj 10
   simp only [h00]
   exact h)) g ?_
 rintro ⟨i,A,c⟩ ⟨hi,hc⟩
 simp only at hi hc
 refine BIf.dec (fun hlt=>?_) (fun hge=>?_)
 ·have hlt0:(i:Int)<R.cs.length:=hlt
  obtain ⟨y,hy,hym⟩:=at_lt (show i<R.cs.length by omega)
  obtain ⟨ad,hA,_⟩:=(rs_rd h).2 (by omega)
  refine ⟨ad,i,hA,rfl,by omega,y.vs,rfl,fun β w' hs=>z_mr (rs_rd (ho w' (hs.get 1 rfl))) hA hy,?_⟩
  have hnx:out (i+1)=out i++(if y.tenant=t then [y] else []):=by
   rw [hout,hout]
   unfold inTs
   rw [List.take_add_one,hy,List.filter_append]
   by_cases q:y.tenant=t<;>simp [q]
  refine BIf.dec (fun heq=>?_) (fun hne=>?_)
  ·have heq0:y.tenant=t:=heq
   rw [if_pos heq0] at hnx
   have hl2:(out (i+1)).length=(out i).length+1:=by rw [hnx,List.length_append];rfl
   have hol1:=hol (i+1)
   intro b2
   refine ⟨1,(out i).length,(out (i+1)).length,(out i).flatMap Crd.vs,y.vs,(out (i+1)).flatMap Crd.vs,rfl,fun β w hs=>z_am (hs.get 0 rfl),z_ls y,by rw [hl2],by rw [hnx];simp,by omega,by show (out (i+1)).length*176<=_;omega,?_⟩
   intro A' c' q1 q2 q3
   refine ⟨((i+1:Nat):Int),by rw [wrap_i64 (by omega) (by omega)];rfl,?_⟩
   exact ⟨⟨i+1,A',c'⟩,⟨by show i+1<=R.cs.length;omega,q1⟩,by show R.cs.length - (i+1)<R.cs.length - i;omega,Ent.mk' ⟨rfl,rfl,rfl,rfl,rfl,trivial⟩ rfl (fun β w' hs=>((hs.keepB (List.nil_sublist _)).perm [1,2]).lower)⟩
  ·have hne0: ¬y.tenant=t:=hne
   rw [if_neg hne0,List.append_nil] at hnx
   refine ⟨((i+1:Nat):Int),by rw [wrap_i64 (by omega) (by omega)];rfl,?_⟩
   refine ⟨⟨i+1,A,c⟩,⟨by show i+1<=R.cs.length;omega,by show (out (i+1)).length<=c;rw [hnx];exact hc⟩,by show R.cs.length - (i+1)<R.cs.length - i;omega,?_⟩
   simp only [hnx]
   exact Ent.mk' ⟨rfl,rfl,rfl,rfl,rfl,trivial⟩ rfl (fun β w' hs=>(hs.keepB (List.nil_sublist _)).lower)
 ·have hge0: ¬(i:Int)<R.cs.length:=hge
  have hfin:out i=inTs R.cs t:=by rw [hout,List.take_of_length_le (by omega)]
  rw [hfin] at hc ⊢
  intro β w' hs
  refine hs.fin [0] ⟨A,c,rfl,fun h0=>?_,rfl⟩
  obtain ⟨ad,e,_⟩:=(z_am (hs.get 0 rfl)).2 h0
  exact ⟨ad,e⟩
theorem z_o9 (w:World) (R:RS) (t:ByteArray) (h:(rsF R).p w) (hl: ∀k,(rsF R).D k->k<w.heap.size) (hn:R.cs.length<=1000):
  Con Tryz.prog z_bD #[ptr R.b,.string t] w [] fun v Fs=> ∃A c,v= .slice A (inTs R.cs t).length c/\Fs=[]:=
 (z_nG w R t h hl hn).none fun v Fs ⟨A,c,e,_⟩=>⟨A,c,e,rfl⟩
theorem Sat.rsLast {cx:Cx} {β:Va} {n:Nat} {H:List Bk} {w:World} {R:RS} {F:List Fact} (h:Sat cx β n H (rsF R::F) w) (m:Nat) {y:Int} (hy:(m:Int)=y):
  ∃w',(storeCells ((⟨R.b,0,none⟩:Addr).add 2) [.int .u64 y] 0).run cx.P w= .ok () w'/\Sat cx β n H (rsF {R with last:=m}::F) w':=by
 subst hy
 obtain ⟨w2,e1,e2⟩:=(h.unsep 0 rfl).bkSet 0 (o:=2) (us:=[.int .u64 (m:Int)]) rfl (by show 3<=4;decide) (fun u hu=>by obtain rfl:=List.mem_singleton.1 hu;rfl)
 refine ⟨w2,e1,?_⟩
 have h2:=e2.sep [0,1,2,3] rfl ⟨rfl,rfl,rfl,rfl,trivial⟩
 have e0:dropIx [0] 1 F=F:=z_aM (by decide)
 have e3:dropIx [0,1,2,3] 4 F=F:=z_aM (by decide)
 refine h2.weaken (List.Sublist.refl _) ?_
 show List.Sublist _ (_::dropIx [0,1,2,3] 4 (dropIx [0] 1 F))
 rw [e0,e3]
 exact List.Sublist.refl _
def raiseTR (X:RA) (n:Nat):Int×RA:=if greatN<n then (4,X) else (0,{X with last:=max X.last n})
theorem z_tI (w:World) (R:RS) (n:Nat) (hw:R.Wf) (hm:Mem w [rsF R]):Con Tryz.prog z_dm #[ptr R.b,.int .u64 (n:Int)] w [rsF R] (rsOut R (raiseTR R.a n)):=by
 have g:=z_e8 w (Un [rsF R])
 obtain ⟨x,hx⟩: ∃x:Int,(n:Int)=x:=⟨_,rfl⟩
 rw [hx]
 refine z_ad (cx:=z_cH w (Un [rsF R])) g z_hx rfl rfl (β:=Va.z) [.c (.v (ptr R.b)),.c (.v (.int .u64 x))] 0 [] [rsF R] rfl rfl (hm.sat0 rfl (fun f hf _ k hk=>⟨f,hf,hk⟩)) ?_
 refine BIf.dec (fun hg=>?_) (fun hg=>?_)
 ·have hg0:(9007199254740992:Int)<x:=hg
  intro β w' hs
  exact hs.fin [0] (z_aA hw (by unfold raiseTR;rw [if_pos (by unfold greatN;omega)]))
 ·have hg0: ¬(9007199254740992:Int)<x:=hg
  obtain ⟨y,hy⟩: ∃y:Int,((max R.last n:Nat):Int)=y:=⟨_,rfl⟩
  refine ⟨.int .u64 (R.last:Int),fun β w' hs=>bkc (rs_bk (hs.get 0 rfl)) rfl,?_⟩
  refine ⟨y,by show max (R.last:Int) x=y;rw [<-hy,<-hx];omega,?_⟩
  refine ⟨[rsF {R with last:=max R.last n}],fun β w' hs=>hs.rsLast _ hy,?_⟩
  have hr:raiseTR R.a n=(0,{R.a with last:=max R.last n}):=by unfold raiseTR;rw [if_neg (by unfold greatN;omega)];rfl
  intro β w' hs
  exact hs.fin [0] ⟨{R with last:=max R.last n},by rw [hr];rfl,by rw [hr];rfl,rfl,hw.tc,hw.lc,hw.mem,fun _ h=>h,rfl⟩
def fndR (cs:List ACrd) (t u:ByteArray):Option Nat:=if (nameA u).2=0 then cs.findIdx? (fun c=>decide (c.tenant=t)&&decide (c.user=(nameA u).1)) else none
def oneR (cs:List ACrd) (t u:ByteArray):Option (Nat×ACrd):=match fndR cs t u with
 | none=>none
 | some k=>match cs[k]? with
  | none=>none
  | some c=>some (k,c)
theorem FindR.one {cs:List Crd} {t u:ByteArray} {i:Int} (h:FindR cs t u i):(i= -1/\oneR (cs.map Crd.a) t u=none)\/ ∃(k:Nat) (c:Crd),i=(k:Int)/\cs[k]?=some c/\oneR (cs.map Crd.a) t u=some (k,c.a):=by
 rcases h with ⟨hi,hn⟩ | ⟨k,c,hi,hc,hU,hpre⟩
 ·refine .inl ⟨hi,?_⟩
  unfold oneR fndR
  by_cases he:(nameA u).2=0
  ·rw [if_pos he]
   have:(cs.map Crd.a).findIdx? (fun c=>decide (c.tenant=t)&&decide (c.user=(nameA u).1))=none:=by
    rw [List.findIdx?_eq_none_iff]
    intro x hx
    obtain ⟨c,hc,rfl⟩:=List.mem_map.1 hx
    rw [Bool.eq_false_iff]
    intro q
    rw [Bool.and_eq_true] at q
    exact hn c hc ⟨he,of_decide_eq_true q.1,of_decide_eq_true q.2⟩
   rw [this]
  ·rw [if_neg he]
 ·refine .inr ⟨k,c,hi,hc,?_⟩
  obtain ⟨hkl,hke⟩:=List.getElem?_eq_some_iff.1 hc
  have hf:fndR (cs.map Crd.a) t u=some k:=by
   unfold fndR
   rw [if_pos hU.1,List.findIdx?_eq_some_iff_getElem]
   refine ⟨by rw [List.length_map];exact hkl,?_,fun j hj=>?_⟩
   ·rw [List.getElem_map,hke]
    show (decide (c.tenant=t)&&decide (c.user=(nameA u).1))=true
    rw [hU.2.1,hU.2.2]
    simp
   ·rw [List.getElem_map]
    intro q
    rw [Bool.and_eq_true] at q
    exact hpre _ (List.mem_take_iff_getElem.2 ⟨j,by omega,rfl⟩) ⟨hU.1,of_decide_eq_true q.1,of_decide_eq_true q.2⟩
  unfold oneR
  rw [hf]
  show (match (cs.map Crd.a)[k]? with | none=>none | some c=>some (k,c))=some (k,c.a)
  rw [List.getElem?_map,hc]
  rfl
theorem z_vt (w:World) (R:RS) (t u:ByteArray) (h:(rsF R).p w) (hl: ∀k,(rsF R).D k->k<w.heap.size) (hu:u.size<=100000) (hn:R.cs.length<=1000000):
  Con Tryz.prog z_bN #[ptr R.b,.string t,.string u] w [] fun v Fs=> ∃i:Int,v= .int .i64 i/\((i= -1/\oneR R.a.cs t u=none)\/ ∃(k:Nat) (c:Crd),i=(k:Int)/\R.cs[k]?=some c/\oneR R.a.cs t u=some (k,c.a))/\Fs=[]:=
 (z_up w R t u h hl hu hn).mono fun v Fs h=>by
  obtain ⟨i,hv,hf,hF⟩:=h
  exact ⟨i,hv,hf.one,hF⟩
theorem z_ty (w:World) (y:Sec):Pu Tryz.prog z_by #[.agg y.vs.toArray] w (.bool (rightA y.a)):=by
 have h:=z_uM w ⟨y.salt.A,y.stored.A,y.server.A,y.ha1.A,y.salt.c,y.stored.c,y.server.c,y.ha1.c,y.salt.l,y.stored.l,y.server.l,y.ha1.l,y.iter⟩
 have e:decide ((0<y.salt.l.length/\y.salt.l.length<=32/\0<y.iter/\y.iter<=64)/\y.stored.l.length=32/\y.server.l.length=32/\y.ha1.l.length=32)=rightA y.a:=by
  unfold rightA saltedA
  show _=(decide (1<=y.salt.l.length)&&(decide (y.salt.l.length<=32)&&(decide (1<=y.iter)&&decide (y.iter<=64)))&&(decide (y.stored.l.length=32)&&(decide (y.server.l.length=32)&&decide (y.ha1.l.length=32))))
  rw [Bool.eq_iff_iff]
  simp only [decide_eq_true_eq,Bool.and_eq_true]
  constructor
  ·rintro ⟨⟨a,b,c,d⟩,e⟩
   exact ⟨⟨by omega,b,by omega,d⟩,e⟩
  ·rintro ⟨⟨a,b,c,d⟩,e⟩
   exact ⟨⟨by omega,b,by omega,d⟩,e⟩
 rw [<-e]
 exact h
theorem Con.gs {P:Program} {f:FuncId} {args:Array Value} {w:World} {Gs Gs':List Fact} {R:Value->List Fact->Prop} (h:Con P f args w Gs R) (hG: ∀k,Un Gs k->Un Gs' k):Con P f args w Gs' R:=
 Calls.mono h fun _ _ ⟨v,he,Fs,h1,h2,h3,h4,h5⟩=>⟨v,he,Fs,h1,Chg.mono h2 (fun i _ q=>hG i q),h3,h4,fun f hf k hk=>(h5 f hf k hk).imp (hG k) id⟩
theorem RS.Wf.pool {R:RS} (hw:R.Wf) (g:Fact):RS.Wf {R with ps:=g::R.ps}:=
 ⟨hw.tc,hw.lc,hw.tn,hw.ln,hw.ris,fun c hc=>⟨List.mem_cons_of_mem _ (hw.mem c hc).1,List.mem_cons_of_mem _ (hw.mem c hc).2.1,(hw.mem c hc).2.2⟩,hw.ro⟩
def ltB (d c:ACrd):Bool:=decide (tlt d.tenant c.tenant) || (decide (d.tenant=c.tenant)&&decide (tlt d.user c.user))
def insA (cs:List ACrd) (c:ACrd):List ACrd:=cs.takeWhile (fun d=>ltB d c)++c::cs.dropWhile (fun d=>ltB d c)
theorem z_pl {α:Type} (p:α->Bool): ∀(l:List α) (i:Nat),(∀d∈l.take i,p d=true)->(∀d,l[i]?=some d->p d=false)->l.takeWhile p=l.take i/\l.dropWhile p=l.drop i
 | [],i,_,_=>by simp
 | x::r,0,_,h=>by
  have hx:p x=false:=h x rfl
  simp [List.takeWhile_cons,List.dropWhile_cons,hx]
 | x::r,i+1,hp,h=>by
  have hx:p x=true:=hp x (by simp)
  obtain ⟨h1,h2⟩:=z_pl p r i (fun d hd=>hp d (by rw [List.take_succ_cons];exact List.mem_cons_of_mem _ hd)) (fun d hd=>h d (by simpa using hd))
  simp [List.takeWhile_cons,List.dropWhile_cons,hx,h1,h2]
def insU (R:RS) (c:ACrd) (v:Value) (Fs:List Fact):Prop:= ∃R':RS,v= .tuple #[]/\R'.a= {R.a with cs:=insA R.a.cs c}/\R'.b=R.b/\R'.ts.length<=R'.tc/\R'.cs.length<=R'.lc/\(∀c∈R'.cs,inP R'.ps c)/\(∀f∈R.ps,f∈R'.ps)/\Fs=[rsF R']
theorem z_qH {R:RS} {c:ACrd} {i:Nat} (hpre: ∀d∈R.cs.take i,ltB d.a c=true) (hst: ∀d,R.cs[i]?=some d->ltB d.a c=false):insA R.a.cs c=(R.cs.take i).map Crd.a++c::(R.cs.drop i).map Crd.a:=by
 obtain ⟨h1,h2⟩:=z_pl (fun d=>ltB d c) (R.cs.map Crd.a) i (fun d hd=>by
  rw [<-List.map_take] at hd
  obtain ⟨e,he,rfl⟩:=List.mem_map.1 hd
  exact hpre e he) (fun d hd=>by
  rw [List.getElem?_map] at hd
  cases h:R.cs[i]? with
  | none=>rw [h] at hd;cases hd
  | some e=>
   rw [h] at hd
   obtain rfl:=Option.some.inj hd
   exact hst e h)
 show (R.cs.map Crd.a).takeWhile _++c::(R.cs.map Crd.a).dropWhile _=_
 rw [h1,h2,List.map_take,List.map_drop]
set_option maxHeartbeats 1000000 in
theorem z_tV (w:World) (R:RS) (c:Crd) (htc:R.ts.length<=R.tc) (hlc:R.cs.length<=R.lc) (hln:R.cs.length<=1000) (hmem: ∀c∈R.cs,inP R.ps c) (hc:inP R.ps c) (hm:Mem w [rsF R]):Con Tryz.prog z_cw #[ptr R.b,.agg c.vs.toArray] w [rsF R] (insU R c.a):=by
 have g:=z_eP w (Un [rsF R])
 have hml:=z_ag
 refine z_ad (cx:=z_a8 w (Un [rsF R])) g z_gb rfl rfl (β:=Va.z) [.c (.v (ptr R.b)),.agg c.ss] 0 [] [rsF R] rfl rfl (hm.sat0 rfl (fun f hf _ k hk=>⟨f,hf,hk⟩)) ?_
 refine z_m5 (κ:=Nat) 0 (fun i=>i<=R.cs.length/\insA R.a.cs c.a=(R.cs.take i).map Crd.a++c.a::(R.cs.drop i).map Crd.a) 1 (fun i=>[(0,.c (.v (ptr R.b))),(3,.c (.p 0 0)),(4,.c (.v (.int .i64 (i:Int))))]) (fun _=>[⟨0,z_aj,c.ss⟩]) (fun _=>[rsF R]) ?_ ?_
 ·rintro i ⟨hi,hins⟩
  obtain ⟨l,hl⟩: ∃l:List Crd,l=R.cs.take i++c::R.cs.drop i:=⟨_,rfl⟩
  have hlen:l.length=R.cs.length+1:=by rw [hl,List.length_append,List.length_take,List.length_cons,List.length_drop];omega
  have hA1: ∀w',(rsF R).p w'->Rd 10 (cutA R.lA R.lc 0 10) i ((R.cs.take i).flatMap Crd.vs) w':=fun w' h=>by
   have h2:=z_pH (rs_rd h) hlc (Nat.zero_le i) hi
   rw [Nat.sub_zero,List.drop_zero] at h2
   exact h2
  have hA2: ∀w',(rsF R).p w'->Rd 10 (cutA R.lA R.lc i 10) (R.cs.length - i) ((R.cs.drop i).flatMap Crd.vs) w':=fun w' h=>by
   have h2:=z_pH (rs_rd h) hlc hi (Nat.le_refl _)
   rw [List.take_of_length_le (by rw [List.length_drop];omega)] at h2
   exact h2
  have fin_: ∀(A:Option Addr) (c3:Nat) (_:R.cs.length+1<=c3) {β:Va} {n:Nat} {w':World} {H:List Bk},Sat (z_a8 w (Un [rsF R])) β n H [rsF {R with lA:=A,lc:=c3,cs:=l}] w'->Fin w [rsF R] (insU R c.a) (.tuple #[]) w':=fun A c3 h3 {β n w' H} hs=>
   (hs.keepB (List.nil_sublist _)).fin [0] ⟨{R with lA:=A,lc:=c3,cs:=l},rfl,by
    show RA.mk _ (l.map Crd.a) _ _=_
    rw [hins,hl,List.map_append]
    rfl,rfl,htc,by show l.length<=c3;omega,fun z hz=>by
    rw [hl] at hz
    rcases List.mem_append.1 hz with h | h
    ·exact hmem z (List.mem_of_mem_take h)
    ·rcases List.mem_cons.1 h with rfl | h
     ·exact hc
     ·exact hmem z (List.mem_of_mem_drop h),fun _ h=>h,rfl⟩
  refine z_ak g z_fz (by kernel_rfl) [⟨0,z_aj,c.ss⟩] [rsF R] (subPerm [0]) ?_
  refine ⟨.slice R.lA R.cs.length R.lc,fun β w' hs=>bkc (rs_bk (hs.get 0 rfl)) rfl,?_⟩
  refine ⟨R.lc,i,0,i,R.lc,_,rfl,rfl,rfl,Nat.le_refl _,by omega,Nat.zero_le _,rfl,rfl,rfl,?_⟩
  refine ⟨.slice R.lA R.cs.length R.lc,fun β w' hs=>bkc (rs_bk (hs.get 0 rfl)) rfl,?_⟩
  refine ⟨R.lc,R.cs.length,i,R.cs.length - i,R.lc - i,_,rfl,rfl,rfl,Nat.le_refl _,by omega,hi,rfl,rfl,rfl,?_⟩
  refine ⟨?_,?_⟩
  ·intro b0
   refine ⟨subPerm [1],?_⟩
   refine ⟨?_,?_⟩
   ·refine ⟨0,0,i,[],(R.cs.take i).flatMap Crd.vs,(R.cs.take i).flatMap Crd.vs,rfl,fun β w' hs=>hA1 w' (hs.get 1 rfl),z_g0 _,Nat.zero_add _,rfl,by omega,by show i*176<=_;omega,?_⟩
    intro A1 c1 p1 _ _
    refine ⟨subPerm [1],?_⟩
    intro b1
    refine ⟨subPerm [2],?_⟩
    refine ⟨1,i,i+1,(R.cs.take i).flatMap Crd.vs,c.vs,(R.cs.take i).flatMap Crd.vs++c.vs,rfl,fun β w' hs=>z_am (hs.get 0 rfl),z_ls c,rfl,rfl,by omega,by show (i+1)*176<=_;omega,?_⟩
    intro A2 c2 p2 _ _
    refine ⟨subPerm [2],?_⟩
    refine ⟨1,i+1,R.cs.length+1,(R.cs.take i).flatMap Crd.vs++c.vs,(R.cs.drop i).flatMap Crd.vs,l.flatMap Crd.vs,rfl,fun β w' hs=>hA2 w' (hs.get 2 rfl),z_g0 _,by omega,by rw [hl];simp,by omega,by show (R.cs.length+1)*176<=_;omega,?_⟩
    intro A3 c3 p3 _ _
    refine ⟨subPerm [2],?_⟩
    refine ⟨subPerm [2],?_⟩
    refine ⟨[rsF {R with lA:=A3,lc:=c3,cs:=l}],fun β w' hs=>?_,?_⟩
    ·have h:=hs.perm [1,2]
     rw [<-hlen] at h ⊢
     exact h.rsLs
    intro β w' hs
    exact fin_ A3 c3 p3 hs
   ·intro b1
    refine ⟨subPerm [2],?_⟩
    refine ⟨1,0,i,[],(R.cs.take i).flatMap Crd.vs,(R.cs.take i).flatMap Crd.vs,rfl,fun β w' hs=>hA1 w' (hs.get 2 rfl),z_g0 _,Nat.zero_add _,rfl,by omega,by show i*176<=_;omega,?_⟩
    intro A1 c1 p1 _ _
    refine ⟨subPerm [2],?_⟩
    refine ⟨1,i,i+1,(R.cs.take i).flatMap Crd.vs,c.vs,(R.cs.take i).flatMap Crd.vs++c.vs,rfl,fun β w' hs=>z_am (hs.get 0 rfl),z_ls c,rfl,rfl,by omega,by show (i+1)*176<=_;omega,?_⟩
    intro A2 c2 p2 _ _
    refine ⟨subPerm [2],?_⟩
    refine ⟨1,i+1,R.cs.length+1,(R.cs.take i).flatMap Crd.vs++c.vs,(R.cs.drop i).flatMap Crd.vs,l.flatMap Crd.vs,rfl,fun β w' hs=>hA2 w' (hs.get 2 rfl),z_g0 _,by omega,by rw [hl];simp,by omega,by show (R.cs.length+1)*176<=_;omega,?_⟩
    intro A3 c3 p3 _ _
    refine ⟨subPerm [2],?_⟩
    refine ⟨subPerm [2],?_⟩
    refine ⟨[rsF {R with lA:=A3,lc:=c3,cs:=l}],fun β w' hs=>?_,?_⟩
    ·have h:=hs.perm [1,2]
     rw [<-hlen] at h ⊢
     exact h.rsLs
    intro β w' hs
    exact fin_ A3 c3 p3 hs
  ·intro b1
   refine ⟨subPerm [1],?_⟩
   intro b0
   refine ⟨subPerm [2],?_⟩
   refine ⟨0,0,i,[],(R.cs.take i).flatMap Crd.vs,(R.cs.take i).flatMap Crd.vs,rfl,fun β w' hs=>hA1 w' (hs.get 2 rfl),z_g0 _,Nat.zero_add _,rfl,by omega,by show i*176<=_;omega,?_⟩
   intro A1 c1 p1 _ _
   refine ⟨subPerm [2],?_⟩
   refine ⟨0,i,i+1,(R.cs.take i).flatMap Crd.vs,c.vs,(R.cs.take i).flatMap Crd.vs++c.vs,rfl,fun β w' hs=>z_am (hs.get 1 rfl),z_ls c,rfl,rfl,by omega,by show (i+1)*176<=_;omega,?_⟩
   intro A2 c2 p2 _ _
   refine ⟨subPerm [2],?_⟩
   refine ⟨0,i+1,R.cs.length+1,(R.cs.take i).flatMap Crd.vs++c.vs,(R.cs.drop i).flatMap Crd.vs,l.flatMap Crd.vs,rfl,fun β w' hs=>hA2 w' (hs.get 2 rfl),z_g0 _,by omega,by rw [hl];simp,by omega,by show (R.cs.length+1)*176<=_;omega,?_⟩
   intro A3 c3 p3 _ _
   refine ⟨subPerm [2],?_⟩
   refine ⟨subPerm [2],?_⟩
   refine ⟨[rsF {R with lA:=A3,lc:=c3,cs:=l}],fun β w' hs=>?_,?_⟩
   ·have h:=hs.perm [0,2]
    rw [<-hlen] at h ⊢
    exact h.rsLs
   intro β w' hs
   exact fin_ A3 c3 p3 hs
 refine z_ai 1 (fun i:Nat=>[(0,.c (.v (ptr R.b))),(3,.c (.p 0 0)),(4,.c (.v (.int .i64 (i:Int))))]) (fun _=>[⟨0,z_aj,c.ss⟩]) (fun _=>[rsF R])
  (fun i=>i<=R.cs.length/\ ∀d∈R.cs.take i,ltB d.a c.a=true) (fun i=>R.cs.length - i) 0 ⟨Nat.zero_le _,fun d h=>by cases h⟩ (Ent.same ⟨rfl,rfl,rfl,trivial⟩ rfl) g ?_
 rintro i ⟨hi,hpre⟩
 have next: ∀ {d:Crd},R.cs[i]?=some d->ltB d.a c.a=true-> ∀e∈R.cs.take (i+1),ltB e.a c.a=true:=fun {d} hd hb e he=>by
  rw [List.take_add_one,hd] at he
  rcases List.mem_append.1 he with he | he
  ·exact hpre e he
  ·obtain rfl:=List.mem_singleton.1 he
   exact hb
 have stop: ∀ {d:Crd},R.cs[i]?=some d->ltB d.a c.a=false->insA R.a.cs c.a=(R.cs.take i).map Crd.a++c.a::(R.cs.drop i).map Crd.a:=fun {d} hd hb=>z_qH hpre (fun e he=>by
  rw [hd] at he
  obtain rfl:=Option.some.inj he
  exact hb)
 refine z_ak g z_fv (by kernel_rfl) [⟨0,z_aj,c.ss⟩] [rsF R] (subPerm [0]) ?_
 refine ⟨.slice R.lA R.cs.length R.lc,fun β w' hs=>bkc (rs_bk (hs.get 0 rfl)) rfl,?_⟩
 refine BIf.dec (fun hlt=>?_) (fun hge=>?_)
 ·have hlt0:(i:Int)<R.cs.length:=hlt
  obtain ⟨d,hd,hdm⟩:=at_lt (show i<R.cs.length by omega)
  obtain ⟨ad,hA,_⟩:=(rs_rd (hm.fact (rsF R) (by simp))).2 (by omega)
  refine ⟨.slice R.lA R.cs.length R.lc,fun β w' hs=>bkc (rs_bk (hs.get 0 rfl)) rfl,?_⟩
  refine ⟨ad,i,hA,rfl,by omega,?_⟩
  refine ⟨.string d.tenant,fun β w' hs=>z_mr (rs_rd (hs.get 0 rfl)) hA hd 0 _ rfl,?_⟩
  obtain ⟨b1,hb1⟩: ∃b,Op.bytesLess d.tenant.toList c.tenant.toList=b:=⟨_,rfl⟩
  conv=>whnf
  rw [hb1]
  rw [z_gY] at hb1
  cases b1 with
  | true=>
   have hb:ltB d.a c.a=true:=by unfold ltB;rw [show decide (tlt d.a.tenant c.a.tenant)=true from hb1];rfl
   refine ⟨((i+1:Nat):Int),by rw [wrap_i64 (by omega) (by omega)];rfl,?_⟩
   exact ⟨i+1,⟨by omega,next hd hb⟩,by omega,Ent.same ⟨rfl,rfl,rfl,trivial⟩ rfl⟩
  | false=>
   refine ⟨.slice R.lA R.cs.length R.lc,fun β w' hs=>bkc (rs_bk (hs.get 0 rfl)) rfl,?_⟩
   refine ⟨ad,i,hA,rfl,by omega,?_⟩
   refine ⟨.string d.tenant,fun β w' hs=>z_mr (rs_rd (hs.get 0 rfl)) hA hd 0 _ rfl,?_⟩
   refine BIf.dec (fun heq=>?_) (fun hne=>?_)
   ·have heq0:d.tenant=c.tenant:=heq
    refine ⟨.slice R.lA R.cs.length R.lc,fun β w' hs=>bkc (rs_bk (hs.get 0 rfl)) rfl,?_⟩
    refine ⟨ad,i,hA,rfl,by omega,?_⟩
    refine ⟨.string d.user,fun β w' hs=>z_mr (rs_rd (hs.get 0 rfl)) hA hd 1 _ rfl,?_⟩
    obtain ⟨b2,hb2⟩: ∃b,Op.bytesLess d.user.toList c.user.toList=b:=⟨_,rfl⟩
    conv=>whnf
    rw [hb2]
    rw [z_gY] at hb2
    have hv:ltB d.a c.a=b2:=by
     unfold ltB
     rw [show decide (tlt d.a.tenant c.a.tenant)=false from hb1,show decide (d.a.tenant=c.a.tenant)=true from decide_eq_true heq0,show decide (tlt d.a.user c.a.user)=b2 from hb2]
     cases b2<;>rfl
    cases b2 with
    | true=>
     refine ⟨((i+1:Nat):Int),by rw [wrap_i64 (by omega) (by omega)];rfl,?_⟩
     exact ⟨i+1,⟨by omega,next hd hv⟩,by omega,Ent.same ⟨rfl,rfl,rfl,trivial⟩ rfl⟩
    | false=>exact EntX.of i ⟨hi,stop hd hv⟩ (Ent.same ⟨rfl,rfl,rfl,trivial⟩ rfl)
   ·have hne0: ¬d.tenant=c.tenant:=hne
    have hv:ltB d.a c.a=false:=by
     unfold ltB
     rw [show decide (tlt d.a.tenant c.a.tenant)=false from hb1,show decide (d.a.tenant=c.a.tenant)=false from decide_eq_false hne0]
     rfl
    exact EntX.of i ⟨hi,stop hd hv⟩ (Ent.same ⟨rfl,rfl,rfl,trivial⟩ rfl)
 ·have hge0: ¬(i:Int)<R.cs.length:=hge
  exact EntX.of i ⟨hi,z_qH hpre (fun d hd=>by
   have:=(List.getElem?_eq_some_iff.1 hd).1
   omega)⟩ (Ent.same ⟨rfl,rfl,rfl,trivial⟩ rfl)
def loadR (X:RA) (c:ACrd):Int×RA:=
 if (plainF c.tenant.data.toList&&allPl c.roles)=false then (5,X)
 else if¬((nameA c.user).2=0/\(nameA c.user).1=c.user/\risB c.roles=true/\rightA c.sec=true/\1<=c.gen/\c.gen<=greatN) then (4,X)
 else match oneR X.cs c.tenant c.user with
  | some _=>(7,X)
  | none=>if hasT X.ts c.tenant=false/\8<=X.ts.length then (8,X) else if 32<=(inTA X.cs c.tenant).length then (8,X)
   else (0,{X with ts:=if hasT X.ts c.tenant=true then X.ts else insT X.ts (rank X.ts c.tenant) c.tenant,cs:=insA X.cs c,last:=max X.last c.gen})
structure LdK where
 i:Nat
 b5:Bool
 b6:Bool
theorem z_sV {l:List ByteArray} {i:Nat} {y z:ByteArray} (hi:0<i) (hy:l[i]?=some y) (hz:l[i - 1]?=some z):decide ((l.take (i+1)).Pairwise tlt)=(decide ((l.take i).Pairwise tlt)&&decide (tlt z y)):=by
 rw [Bool.eq_iff_iff,Bool.and_eq_true,decide_eq_true_iff,decide_eq_true_iff,decide_eq_true_iff]
 have hil:=(List.getElem?_eq_some_iff.1 hy).1
 constructor
 ·intro q
  refine ⟨q.sublist (List.take_sublist_take_left (Nat.le_succ i)),z_nP q (show i - 1<i by omega) ?_ ?_⟩
  ·rw [List.getElem?_take,if_pos (by omega)];exact hz
  ·rw [List.getElem?_take,if_pos (by omega)];exact hy
 ·rintro ⟨hpre,hzy⟩
  rw [List.take_add_one,hy]
  refine List.pairwise_append.2 ⟨hpre,List.pairwise_singleton _ _,fun a ha b hb=>?_⟩
  obtain rfl:=List.mem_singleton.1 hb
  obtain ⟨k,hk⟩:=List.mem_iff_getElem?.1 ha
  have hki:k<i:=by have:=(List.getElem?_eq_some_iff.1 hk).1;rw [List.length_take] at this;omega
  rcases Nat.lt_or_ge k (i - 1) with h | h
  ·exact z_b8 (z_nP hpre h hk (by rw [List.getElem?_take,if_pos (by omega)];exact hz)) hzy
  ·obtain rfl:k=i - 1:=by omega
   rw [List.getElem?_take,if_pos hki,hz] at hk
   obtain rfl:=Option.some.inj hk
   exact hzy
set_option maxHeartbeats 2000000 in
theorem z_uS (w:World) (R:RS) (c:Crd) (hc:inP R.ps c) (hw:R.Wf) (ht:c.tenant.size<=100000) (hu:c.user.size<=100000) (hrs: ∀r∈c.roles,r.size<=100000) (hrl:c.roles.length<=100000) (hm:Mem w [rsF R]):
  Con Tryz.prog z_bO #[ptr R.b,.agg c.vs.toArray] w [rsF R] (rsOut R (loadR R.a c.a)):=by
 have g:=z_fW w (Un [rsF R])
 have hln:=hw.ln
 have htn:=hw.tn
 refine z_ad (cx:=z_bA w (Un [rsF R])) g z_hT rfl rfl (β:=Va.z) [.c (.v (ptr R.b)),.agg c.ss] 0 [] [rsF R] rfl rfl (hm.sat0 rfl (fun f hf _ k hk=>⟨f,hf,hk⟩)) ?_
 have hrd: ∀w',(rsF R).p w'->Rd 1 c.rA c.roles.length (strs c.roles) w':=fun w' h=>rs_po h _ hc.2.1
 obtain ⟨p,e,hpe⟩: ∃p e,nameA c.user=(p,e):=⟨_,_,rfl⟩
 refine z_af (fun β w' hs=>z_mX w' c.tenant ht) ?_
 refine z_ai (ι:=LdK) 1 (fun j=>[(0,.c (.v (ptr R.b))),(3,.c (.p 0 0)),(5,.c (.v (.bool j.b5))),(6,.c (.v (.bool j.b6))),(21,.c (.v (.slice c.rA c.roles.length c.rc))),(22,.c (.v (.int .i64 (c.roles.length:Int)))),(23,.c (.v (.int .i64 (j.i:Int))))]) (fun _=>[⟨0,z_aj,c.ss⟩]) (fun _=>[rsF R])
  (fun j=>j.i<=c.roles.length/\j.b5=(plainF c.tenant.data.toList&&allPl (c.roles.take j.i))/\j.b6=(decide ((c.roles.length:Int)<=8)&&decide ((c.roles.take j.i).Pairwise tlt))) (fun j=>c.roles.length - j.i) ⟨0,plainF c.tenant.data.toList,decide ((c.roles.length:Int)<=8)⟩ ⟨Nat.zero_le _,by simp [allPl],by simp⟩ (Ent.same ⟨rfl,rfl,rfl,rfl,rfl,rfl,rfl,trivial⟩ rfl) g ?_
 rintro ⟨i,b5,b6⟩ ⟨hi,h5,h6⟩
 simp only at hi h5 h6
 refine BIf.dec (fun hlt=>?_) (fun hge=>?_)
 ·have hlt0:(i:Int)<c.roles.length:=hlt
  obtain ⟨y,hy,hym⟩:=at_lt (show i<c.roles.length by omega)
  obtain ⟨ad,hA,_⟩:=(hrd w (hm.fact (rsF R) (by simp))).2 (by omega)
  have hld: ∀ {β:Va} {n:Nat} {H:List Bk} {w':World},Sat (z_bA w (Un [rsF R])) β n H [rsF R] w'-> ∀k z,c.roles[k]?=some z->w'.cell? (ad.add (k*1))=some (.string z):=fun hs k z hz=>Rd.cell1 (by have h:=hrd _ (hs.get 0 rfl);rw [hA] at h;exact h) (by simp [strs,hz])
  have n5:(plainF c.tenant.data.toList&&allPl (c.roles.take (i+1)))=(b5&&plainF y.data.toList):=by
   rw [h5,List.take_add_one,hy]
   unfold allPl
   rw [List.all_append,Bool.and_assoc]
   simp
  have step6: ∀b,(i=0->b=b6)->(∀z,0<i->c.roles[i - 1]?=some z->b=(b6&&decide (tlt z y)))->b=(decide ((c.roles.length:Int)<=8)&&decide ((c.roles.take (i+1)).Pairwise tlt)):=fun b h0 h1=>by
   rcases Nat.eq_zero_or_pos i with q | q
   ·rw [h0 q,h6,q,List.take_add_one,<-q,hy]
    subst q
    simp
   ·obtain ⟨z,hz,_⟩:=at_lt (show i - 1<c.roles.length by omega)
    rw [h1 z q hz,z_sV q hy hz,h6,Bool.and_assoc]
  refine ⟨ad,i,hA,rfl,by omega,.string y,fun β w' hs=>hld hs i y hy,?_⟩
  cases b5 with
  | false=>
   cases b6 with
   | false=>
    refine ⟨((i+1:Nat):Int),by rw [wrap_i64 (by omega) (by omega)];rfl,?_⟩
    exact ⟨⟨i+1,false,false⟩,⟨by show i+1<=c.roles.length;omega,by rw [n5];rfl,step6 _ (fun _=>rfl) (fun _ _ _=>rfl)⟩,by show c.roles.length - (i+1)<c.roles.length - i;omega,Ent.same ⟨rfl,rfl,rfl,rfl,rfl,rfl,rfl,trivial⟩ rfl⟩
   | true=>
    refine BIf.dec (fun h0=>?_) (fun h0=>?_)
    ·have h00:(i:Int)=0:=h0
     refine ⟨((i+1:Nat):Int),by rw [wrap_i64 (by omega) (by omega)];rfl,?_⟩
     exact ⟨⟨i+1,false,true⟩,⟨by show i+1<=c.roles.length;omega,by rw [n5];rfl,step6 _ (fun _=>rfl) (fun _ q _=>by exfalso;omega)⟩,by show c.roles.length - (i+1)<c.roles.length - i;omega,Ent.same ⟨rfl,rfl,rfl,rfl,rfl,rfl,rfl,trivial⟩ rfl⟩
    ·have h00: ¬(i:Int)=0:=h0
     obtain ⟨z,hz,hzm⟩:=at_lt (show i - 1<c.roles.length by omega)
     refine ⟨((i - 1:Nat):Int),by show IntKind.i64.wrap ((i:Int) - 1)=_;rw [wrap_i64 (by omega) (by omega)];omega,?_⟩
     refine ⟨ad,i - 1,hA,rfl,by omega,.string z,fun β w' hs=>hld hs _ _ hz,?_⟩
     refine ⟨((i+1:Nat):Int),by rw [wrap_i64 (by omega) (by omega)];rfl,?_⟩
     exact ⟨⟨i+1,false,Op.bytesLess z.toList y.toList⟩,⟨by show i+1<=c.roles.length;omega,by rw [n5];rfl,step6 _ (fun q=>by exfalso;omega) (fun z2 _ hz2=>by
      rw [hz] at hz2
      obtain rfl:=Option.some.inj hz2
      rw [z_gY,Bool.true_and])⟩,by show c.roles.length - (i+1)<c.roles.length - i;omega,Ent.same ⟨rfl,rfl,rfl,rfl,rfl,rfl,rfl,trivial⟩ rfl⟩
  | true=>
   refine z_af (fun β w' hs=>z_mX w' y (hrs y hym)) ?_
   cases b6 with
   | false=>
    refine ⟨((i+1:Nat):Int),by rw [wrap_i64 (by omega) (by omega)];rfl,?_⟩
    exact ⟨⟨i+1,plainF y.data.toList,false⟩,⟨by show i+1<=c.roles.length;omega,by rw [n5];rfl,step6 _ (fun _=>rfl) (fun _ _ _=>rfl)⟩,by show c.roles.length - (i+1)<c.roles.length - i;omega,Ent.same ⟨rfl,rfl,rfl,rfl,rfl,rfl,rfl,trivial⟩ rfl⟩
   | true=>
    refine BIf.dec (fun h0=>?_) (fun h0=>?_)
    ·have h00:(i:Int)=0:=h0
     refine ⟨((i+1:Nat):Int),by rw [wrap_i64 (by omega) (by omega)];rfl,?_⟩
     exact ⟨⟨i+1,plainF y.data.toList,true⟩,⟨by show i+1<=c.roles.length;omega,by rw [n5];rfl,step6 _ (fun _=>rfl) (fun _ q _=>by exfalso;omega)⟩,by show c.roles.length - (i+1)<c.roles.length - i;omega,Ent.same ⟨rfl,rfl,rfl,rfl,rfl,rfl,rfl,trivial⟩ rfl⟩
    ·have h00: ¬(i:Int)=0:=h0
     obtain ⟨z,hz,hzm⟩:=at_lt (show i - 1<c.roles.length by omega)
     refine ⟨((i - 1:Nat):Int),by show IntKind.i64.wrap ((i:Int) - 1)=_;rw [wrap_i64 (by omega) (by omega)];omega,?_⟩
     refine ⟨ad,i - 1,hA,rfl,by omega,.string z,fun β w' hs=>hld hs _ _ hz,?_⟩
     refine ⟨((i+1:Nat):Int),by rw [wrap_i64 (by omega) (by omega)];rfl,?_⟩
     exact ⟨⟨i+1,plainF y.data.toList,Op.bytesLess z.toList y.toList⟩,⟨by show i+1<=c.roles.length;omega,by rw [n5];rfl,step6 _ (fun q=>by exfalso;omega) (fun z2 _ hz2=>by
      rw [hz] at hz2
      obtain rfl:=Option.some.inj hz2
      rw [z_gY,Bool.true_and])⟩,by show c.roles.length - (i+1)<c.roles.length - i;omega,Ent.same ⟨rfl,rfl,rfl,rfl,rfl,rfl,rfl,trivial⟩ rfl⟩
 ·have hge0: ¬(i:Int)<c.roles.length:=hge
  rw [List.take_of_length_le (by omega)] at h5 h6
  have hri:b6=risB c.roles:=by
   rw [h6]
   unfold risB
   rw [Bool.and_comm]
   congr 1
   exact decide_eq_decide.2 (by omega)
  refine z_af (fun β w' hs=>rsz_c w' c.user hu) ?_
  rw [hpe]
  have hl0:loadR R.a c.a=if b5=false then ((5,R.a):Int×RA)
    else if¬(e=0/\p=c.user/\b6=true/\rightA c.sec.a=true/\1<=c.gen/\c.gen<=greatN) then (4,R.a)
    else match oneR R.a.cs c.tenant c.user with
     | some _=>(7,R.a)
     | none=>if hasT R.ts c.tenant=false/\8<=R.ts.length then (8,R.a) else if 32<=(inTA R.a.cs c.tenant).length then (8,R.a)
      else (0,{R.a with ts:=if hasT R.ts c.tenant=true then R.ts else insT R.ts (rank R.ts c.tenant) c.tenant,cs:=insA R.a.cs c.a,last:=max R.last c.gen}):=by
   unfold loadR
   rw [show nameA c.a.user=(p,e) from hpe,h5,hri]
   rfl
  cases b5 with
  | false=>
   intro β w' hs
   exact (hs.keepB (List.nil_sublist _)).fin [0] (z_aA hw (by rw [hl0,if_pos rfl]))
  | true=>
  have bad: ∀(_: ¬(e=0/\p=c.user/\b6=true/\rightA c.sec.a=true/\1<=c.gen/\c.gen<=greatN)),loadR R.a c.a=(4,R.a):=fun h=>by rw [hl0,if_neg (show¬true=false by decide),if_pos h]
  refine BIf.not (BIf.dec (fun he=>?_) (fun he=>?_))
  rotate_left
  ·have he0: ¬e=0:=he
   intro β w' hs
   exact (hs.keepB (List.nil_sublist _)).fin [0] (z_aA hw (bad (fun h=>he0 h.1)))
  have he0:e=0:=he
  refine BIf.not (BIf.dec (fun hpu=>?_) (fun hpu=>?_))
  rotate_left
  ·have hpu0: ¬p=c.user:=hpu
   intro β w' hs
   exact (hs.keepB (List.nil_sublist _)).fin [0] (z_aA hw (bad (fun h=>hpu0 h.2.1)))
  have hpu0:p=c.user:=hpu
  cases b6 with
  | false=>
   intro β w' hs
   exact (hs.keepB (List.nil_sublist _)).fin [0] (z_aA hw (bad (fun h=>by cases h.2.2.1)))
  | true=>
  obtain ⟨br,hbr⟩: ∃b,rightA c.sec.a=b:=⟨_,rfl⟩
  refine z_af (v:= .bool br) (fun β w' hs=>by rw [<-hbr];exact z_ty w' c.sec) ?_
  cases br with
  | false=>
   intro β w' hs
   exact (hs.keepB (List.nil_sublist _)).fin [0] (z_aA hw (bad (fun h=>by rw [hbr] at h;cases h.2.2.2.1)))
  | true=>
  refine BIf.dec (fun hg=>?_) (fun hg=>?_)
  ·have hg0:(c.gen:Int)<1:=hg
   intro β w' hs
   exact (hs.keepB (List.nil_sublist _)).fin [0] (z_aA hw (bad (fun h=>by have:=h.2.2.2.2.1;omega)))
  have hg0: ¬(c.gen:Int)<1:=hg
  refine BIf.dec (fun hh=>?_) (fun hh=>?_)
  ·have hh0:(9007199254740992:Int)<(c.gen:Int):=hh
   intro β w' hs
   exact (hs.keepB (List.nil_sublist _)).fin [0] (z_aA hw (bad (fun h=>by have:=h.2.2.2.2.2;unfold greatN at this;omega)))
  have hh0: ¬(9007199254740992:Int)<(c.gen:Int):=hh
  rw [if_neg (show¬true=false by decide),if_neg (fun hn=>hn ⟨he0,hpu0,rfl,hbr,by omega,by unfold greatN;omega⟩)] at hl0
  subst hpu0
  refine z_ac [] (fun β w' hs=>z_vt w' R c.tenant c.user (hs.get 0 rfl) (hs.getLt 0 rfl) hu (by omega)) ?_
  rintro v Fs ⟨i2,rfl,hf,rfl⟩
  refine BIf.dec (fun hpos=>?_) (fun hneg=>?_)
  ·have hpos0:0<=i2:=hpos
   have hr2:loadR R.a c.a=(7,R.a):=by
    rcases hf with ⟨h,_⟩ | ⟨k,c,_,_,h⟩
    ·exfalso;omega
    ·rw [hl0,h]
   intro β w' hs
   exact (hs.keepB (List.nil_sublist _)).fin [0] (z_aA hw hr2)
  have hneg0: ¬0<=i2:=hneg
  have hnone:oneR R.a.cs c.tenant c.user=none:=by
   rcases hf with ⟨_,h⟩ | ⟨k,c,h,_,_⟩
   ·exact h
   ·exfalso;omega
  rw [hnone] at hl0
  obtain ⟨bh,hbh⟩: ∃b,hasT R.ts c.tenant=b:=⟨_,rfl⟩
  rw [hbh] at hl0
  have hlen:(inTA R.a.cs c.tenant).length=(inTs R.cs c.tenant).length:=(z_s4 R.cs c.tenant).symm
  refine z_ak g z_fL (by kernel_rfl) [⟨0,z_aj,c.ss⟩] [rsF R] (subPerm [0]) ?_
  refine ⟨.slice R.tA R.ts.length R.tc,fun β w' hs=>bkc (rs_bk (hs.get 0 rfl)) rfl,?_⟩
  refine z_af (v:= .bool bh) (fun β w' hs=>by rw [<-hbh];exact inT_c w' R.tA R.ts R.tc c.tenant (rs_ts (hs.get 0 rfl)) (by omega)) ?_
  refine ⟨subPerm [0],?_⟩
  cases bh with
  | true=>
   refine z_ac [] (fun β w' hs=>z_o9 w' R c.tenant (hs.get 0 rfl) (hs.getLt 0 rfl) hln) ?_
   rintro v Fs ⟨A,c0,rfl,rfl⟩
   refine ⟨subPerm [0],?_⟩
   refine BIf.dec (fun h32=>?_) (fun h32=>?_)
   ·have h320:(32:Int)<=((inTs R.cs c.tenant).length:Int):=h32
    intro β w' hs
    exact (hs.keepB (List.nil_sublist _)).fin [0] (z_aA hw (by
     rw [hl0]
     show (if (true=false/\8<=R.ts.length) then _ else if 32<=(inTA R.a.cs c.tenant).length then _ else _)=_
     rw [if_neg (fun h=>by cases h.1),if_pos (by rw [hlen];omega)]))
   have h320: ¬(32:Int)<=((inTs R.cs c.tenant).length:Int):=h32
   have hr2:loadR R.a c.a=(0,{R.a with ts:=R.ts,cs:=insA R.a.cs c.a,last:=max R.last c.gen}):=by
    rw [hl0]
    show (if (true=false/\8<=R.ts.length) then _ else if 32<=(inTA R.a.cs c.tenant).length then _ else _)=_
    rw [if_neg (fun h=>by cases h.1),if_neg (by rw [hlen];omega)]
    rfl
   refine z_ak g z_cl (by kernel_rfl) [⟨0,z_aj,c.ss⟩] [rsF R] (subPerm [0]) ?_
   refine ⟨.slice R.tA R.ts.length R.tc,fun β w' hs=>bkc (rs_bk (hs.get 0 rfl)) rfl,?_⟩
   refine z_af (v:= .bool true) (fun β w' hs=>by rw [<-hbh];exact inT_c w' R.tA R.ts R.tc c.tenant (rs_ts (hs.get 0 rfl)) (by omega)) ?_
   refine ⟨subPerm [0],?_⟩
   refine z_ac [0] (fun β w' hs=>z_tV w' R c hw.tc hw.lc hw.ln hw.mem hc (hs.mem.take (js:=[0]) rfl)) ?_
   rintro v Fs ⟨R2,rfl,k2,k3,k4,k5,k6,k7,rfl⟩
   obtain ⟨z,hz⟩: ∃z:Int,((max R2.last c.gen:Nat):Int)=z:=⟨_,rfl⟩
   refine z_ak g z_ce (by kernel_rfl) [⟨0,z_aj,c.ss⟩] [] (subPerm []) ?_
   refine ⟨.int .u64 (R2.last:Int),fun β w' hs=>by have h:=bkc (rs_bk (hs.get 0 rfl)) (o:=2) rfl;rw [k3] at h;exact h,?_⟩
   refine ⟨subPerm [],?_⟩
   refine ⟨z,by show max (R2.last:Int) (c.gen:Int)=z;rw [<-hz];omega,?_⟩
   refine ⟨[rsF {R2 with last:=max R2.last c.gen}],fun β w' hs=>by
    obtain ⟨w2,e1,e2⟩:=hs.rsLast _ hz
    exact ⟨w2,by rw [<-k3];exact e1,e2⟩,?_⟩
   refine ⟨subPerm [],?_⟩
   intro β w' hs
   have hl2:R2.last=R.last:=congrArg RA.last k2
   refine (hs.keepB (List.nil_sublist _)).fin [0] ⟨{R2 with last:=max R2.last c.gen},by rw [hr2];rfl,?_,k3,k4,k5,k6,k7,rfl⟩
   rw [hr2]
   show RA.mk R2.a.ts R2.a.cs (max R2.last c.gen) R2.a.reads=_
   rw [k2,hl2]
   rfl
  | false=>
   refine ⟨.slice R.tA R.ts.length R.tc,fun β w' hs=>bkc (rs_bk (hs.get 0 rfl)) rfl,?_⟩
   refine BIf.dec (fun h8=>?_) (fun h8=>?_)
   ·have h80:(8:Int)<=(R.ts.length:Int):=h8
    refine ⟨subPerm [0],?_⟩
    intro β w' hs
    exact (hs.keepB (List.nil_sublist _)).fin [0] (z_aA hw (by
     rw [hl0]
     show (if (false=false/\8<=R.ts.length) then _ else _)=_
     rw [if_pos ⟨rfl,by omega⟩]))
   have h80: ¬(8:Int)<=(R.ts.length:Int):=h8
   refine z_ac [] (fun β w' hs=>z_o9 w' R c.tenant (hs.get 0 rfl) (hs.getLt 0 rfl) hln) ?_
   rintro v Fs ⟨A,c0,rfl,rfl⟩
   refine ⟨subPerm [0],?_⟩
   refine BIf.dec (fun h32=>?_) (fun h32=>?_)
   ·have h320:(32:Int)<=((inTs R.cs c.tenant).length:Int):=h32
    intro β w' hs
    exact (hs.keepB (List.nil_sublist _)).fin [0] (z_aA hw (by
     rw [hl0]
     show (if (false=false/\8<=R.ts.length) then _ else if 32<=(inTA R.a.cs c.tenant).length then _ else _)=_
     rw [if_neg (fun h=>by have:=h.2;omega),if_pos (by rw [hlen];omega)]))
   have h320: ¬(32:Int)<=((inTs R.cs c.tenant).length:Int):=h32
   have hr2:loadR R.a c.a=(0,{R.a with ts:=insT R.ts (rank R.ts c.tenant) c.tenant,cs:=insA R.a.cs c.a,last:=max R.last c.gen}):=by
    rw [hl0]
    show (if (false=false/\8<=R.ts.length) then _ else if 32<=(inTA R.a.cs c.tenant).length then _ else _)=_
    rw [if_neg (fun h=>by have:=h.2;omega),if_neg (by rw [hlen];omega)]
    rfl
   refine z_ak g z_cl (by kernel_rfl) [⟨0,z_aj,c.ss⟩] [rsF R] (subPerm [0]) ?_
   refine ⟨.slice R.tA R.ts.length R.tc,fun β w' hs=>bkc (rs_bk (hs.get 0 rfl)) rfl,?_⟩
   refine z_af (v:= .bool false) (fun β w' hs=>by rw [<-hbh];exact inT_c w' R.tA R.ts R.tc c.tenant (rs_ts (hs.get 0 rfl)) (by omega)) ?_
   refine ⟨subPerm [0],?_⟩
   refine z_ak g z_fX (by kernel_rfl) [⟨0,z_aj,c.ss⟩] [] (subPerm []) ?_
   refine ⟨.slice R.tA R.ts.length R.tc,fun β w' hs=>bkc (rs_bk (hs.get 0 rfl)) rfl,?_⟩
   refine ⟨subPerm [],?_⟩
   refine z_ac [] (fun β w' hs=>put_c w' R.tA R.ts R.tc c.tenant (rs_ts (hs.get 0 rfl)) (by omega) hw.tc hw.ris) ?_
   rintro v Fs ⟨A1,c1,rfl,hc1,rfl⟩
   refine ⟨subPerm [],?_⟩
   refine ⟨[rsF {R with tA:=A1,tc:=c1,ts:=insT R.ts (rank R.ts c.tenant) c.tenant}],fun β w' hs=>hs.rsTs,?_⟩
   refine ⟨subPerm [],?_⟩
   refine z_ac [0] (fun β w' hs=>z_tV w' {R with tA:=A1,tc:=c1,ts:=insT R.ts (rank R.ts c.tenant) c.tenant} c hc1 hw.lc hw.ln hw.mem hc (hs.mem.take (js:=[0]) rfl)) ?_
   rintro v Fs ⟨R2,rfl,k2,k3,k4,k5,k6,k7,rfl⟩
   obtain ⟨z,hz⟩: ∃z:Int,((max R2.last c.gen:Nat):Int)=z:=⟨_,rfl⟩
   refine z_ak g z_ce (by kernel_rfl) [⟨0,z_aj,c.ss⟩] [] (subPerm []) ?_
   refine ⟨.int .u64 (R2.last:Int),fun β w' hs=>by have h:=bkc (rs_bk (hs.get 0 rfl)) (o:=2) rfl;rw [k3] at h;exact h,?_⟩
   refine ⟨subPerm [],?_⟩
   refine ⟨z,by show max (R2.last:Int) (c.gen:Int)=z;rw [<-hz];omega,?_⟩
   refine ⟨[rsF {R2 with last:=max R2.last c.gen}],fun β w' hs=>by
    obtain ⟨w2,e1,e2⟩:=hs.rsLast _ hz
    exact ⟨w2,by rw [<-k3];exact e1,e2⟩,?_⟩
   refine ⟨subPerm [],?_⟩
   intro β w' hs
   have hl2:R2.last=R.last:=congrArg RA.last k2
   refine (hs.keepB (List.nil_sublist _)).fin [0] ⟨{R2 with last:=max R2.last c.gen},by rw [hr2];rfl,?_,k3,k4,k5,k6,k7,rfl⟩
   rw [hr2]
   show RA.mk R2.a.ts R2.a.cs (max R2.last c.gen) R2.a.reads=_
   rw [k2,hl2]
   rfl
end Go.Proofs.YtloeaiafphkjnaaGreatDoor.Sx
namespace Go.Proofs.YtloeaiafphkjnaaGreatDoor.Sx
open Go
def kl (d c:ACrd):Prop:=tlt d.tenant c.tenant\/(d.tenant=c.tenant/\tlt d.user c.user)
theorem ltB_iff {d c:ACrd}:ltB d c=true↔kl d c:=by
 unfold ltB kl
 simp only [Bool.or_eq_true,Bool.and_eq_true,decide_eq_true_eq]
theorem z_sz {c d:ACrd} (h:kl c d): ¬kl d c:=by
 rintro (k | ⟨k,k2⟩)<;>rcases h with h | ⟨h,h2⟩
 ·exact z_iC h k
 ·rw [h] at k;exact z_bU _ k
 ·rw [k] at h;exact z_bU _ h
 ·exact z_iC h2 k2
theorem z_s0 {c d e:ACrd} (h:kl c d) (k:kl d e):kl c e:=by
 rcases h with h | ⟨h,h2⟩<;>rcases k with k | ⟨k,k2⟩
 ·exact .inl (z_b8 h k)
 ·exact .inl (k▸h)
 ·exact .inl (h▸k)
 ·exact .inr ⟨h.trans k,z_b8 h2 k2⟩
theorem z_vH (c d:ACrd) (h: ¬(c.tenant=d.tenant/\c.user=d.user)):kl c d\/kl d c:=by
 rcases z_ne c.tenant d.tenant with q | q | q
 ·exact .inl (.inl q)
 ·rcases z_ne c.user d.user with p | p | p
  ·exact .inl (.inr ⟨q,p⟩)
  ·exact absurd ⟨q,p⟩ h
  ·exact .inr (.inr ⟨q.symm,p⟩)
 ·exact .inr (.inl q)
structure CWf (t:ByteArray) (last:Nat) (c:ACrd):Prop where
 t:c.tenant=t
 n:nameA c.user=(c.user,0)
 r:c.roles.Pairwise tlt
 r8:c.roles.length<=8
 s:rightA c.sec=true
 g:c.gen<=last
theorem CWf.mono {t:ByteArray} {l l':Nat} {c:ACrd} (h:CWf t l c) (hl:l<=l'):CWf t l' c:=⟨h.t,h.n,h.r,h.r8,h.s,Nat.le_trans h.g hl⟩
structure TWf (last:Nat) (p:ByteArray×List ACrd):Prop where
 len:p.2.length<=32
 nd:(p.2.map (·.user)).Nodup
 cs: ∀c∈p.2,CWf p.1 last c
 sz:p.1.size<=32
theorem TWf.mono {l l':Nat} {p:ByteArray×List ACrd} (h:TWf l p) (hl:l<=l'):TWf l' p:=⟨h.len,h.nd,fun c hc=>(h.cs c hc).mono hl,h.sz⟩
structure Jn (X:ASto) (Y:RA):Prop where
 last:X.last=Y.last
 reads:X.reads=Y.reads
 great:X.last<=greatN
 nd:(X.ts.map (·.1)).Nodup
 len:X.ts.length<=8
 tw: ∀p∈X.ts,TWf X.last p
 tsr:Y.ts.Pairwise tlt
 tsp:Y.ts.Perm (X.ts.map (·.1))
 csr:Y.cs.Pairwise kl
 csp:Y.cs.Perm (X.ts.flatMap (·.2))
theorem aten_none: ∀ {ts:ATs} {t:ByteArray},aten ts t=none↔t∉ts.map (·.1)
 | [],t=>by simp [aten]
 | (k,us)::r,t=>by
  by_cases h:k=t
  ·simp [aten,h]
  ·have:=aten_none (ts:=r) (t:=t)
   have h2: ¬t=k:=fun q=>h q.symm
   simp only [aten,if_neg h,List.map_cons,List.mem_cons,not_or,h2,not_false_iff,true_and]
   exact this
theorem z_eQ: ∀ {ts:ATs} {t:ByteArray} {us:List ACrd},aten ts t=some us-> ∃A B,ts=A++(t,us)::B/\(∀f,atenU ts t f=A++(t,f us)::B)/\atenD ts t=A++B
 | (k,us0)::r,t,us,h=>by
  by_cases hk:k=t
  ·simp only [aten,if_pos hk] at h
   obtain rfl:=Option.some.inj h
   subst hk
   exact ⟨[],r,rfl,fun f=>by simp [atenU],by simp [atenD]⟩
  ·simp only [aten,if_neg hk] at h
   obtain ⟨A,B,h1,h2,h3⟩:=z_eQ h
   exact ⟨(k,us0)::A,B,by rw [h1];rfl,fun f=>by simp only [atenU,if_neg hk,h2 f];rfl,by simp only [atenD,if_neg hk,h3];rfl⟩
theorem ausr_none: ∀ {us:List ACrd} {n:ByteArray},ausr us n=none↔n∉us.map (·.user)
 | [],n=>by simp [ausr]
 | c::r,n=>by
  by_cases h:c.user=n
  ·simp [ausr,h]
  ·have:=ausr_none (us:=r) (n:=n)
   have h2: ¬n=c.user:=fun q=>h q.symm
   simp only [ausr,if_neg h,List.map_cons,List.mem_cons,not_or,h2,not_false_iff,true_and]
   exact this
theorem z_gc: ∀ {us:List ACrd} {n:ByteArray} {c:ACrd},ausr us n=some c->c.user=n/\ ∃U V,us=U++c::V/\(∀f,ausrU us n f=U++f c::V)/\ausrD us n=U++V
 | c0::r,n,c,h=>by
  by_cases hk:c0.user=n
  ·simp only [ausr,if_pos hk] at h
   obtain rfl:=Option.some.inj h
   exact ⟨hk,[],r,rfl,fun f=>by simp [ausrU,hk],by simp [ausrD,hk]⟩
  ·simp only [ausr,if_neg hk] at h
   obtain ⟨h0,U,V,h1,h2,h3⟩:=z_gc h
   exact ⟨h0,c0::U,V,by rw [h1];rfl,fun f=>by simp only [ausrU,if_neg hk,h2 f];rfl,by simp only [ausrD,if_neg hk,h3];rfl⟩
theorem z_pi {ts:ATs} (hn:(ts.map (·.1)).Nodup) {t:ByteArray} {us:List ACrd} (h:(t,us)∈ts):aten ts t=some us:=by
 induction ts with
 | nil=>cases h
 | cons p r ih=>
  obtain ⟨k,us0⟩:=p
  rw [List.map_cons,List.nodup_cons] at hn
  rcases List.mem_cons.1 h with h | h
  ·injection h with h1 h2
   simp [aten,h1,h2]
  ·have hk: ¬k=t:=fun q=>hn.1 (by rw [q];exact List.mem_map.2 ⟨_,h,rfl⟩)
   simp only [aten,if_neg hk]
   exact ih hn.2 h
theorem z_o6 {us:List ACrd} (hn:(us.map (·.user)).Nodup) {c:ACrd} (h:c∈us):ausr us c.user=some c:=by
 induction us with
 | nil=>cases h
 | cons p r ih=>
  rw [List.map_cons,List.nodup_cons] at hn
  rcases List.mem_cons.1 h with h | h
  ·simp [ausr,h]
  ·have hk: ¬p.user=c.user:=fun q=>hn.1 (by show p.user∈_;rw [q];exact List.mem_map.2 ⟨_,h,rfl⟩)
   simp only [ausr,if_neg hk]
   exact ih hn.2 h
section
variable {X:ASto} {Y:RA}
theorem Jn.has (h:Jn X Y) (t:ByteArray):hasT Y.ts t=(aten X.ts t).isSome:=by
 rw [Bool.eq_iff_iff,hasT_iff,h.tsp.mem_iff]
 cases hq:aten X.ts t with
 | none=>simpa using aten_none.1 hq
 | some us=>
  have: ¬aten X.ts t=none:=by rw [hq];simp
  rw [aten_none] at this
  simpa using this
theorem Jn.tlen (h:Jn X Y):Y.ts.length=X.ts.length:=by rw [h.tsp.length_eq,List.length_map]
theorem Jn.mem (h:Jn X Y) {c:ACrd} (hc:c∈Y.cs): ∃us,aten X.ts c.tenant=some us/\c∈us/\(c.tenant,us)∈X.ts:=by
 obtain ⟨p,hp,hcp⟩:=List.mem_flatMap.1 (h.csp.mem_iff.1 hc)
 obtain ⟨k,us⟩:=p
 obtain rfl:c.tenant=k:=((h.tw _ hp).cs c hcp).t
 exact ⟨us,z_pi h.nd hp,hcp,hp⟩
theorem Jn.inT (h:Jn X Y) {t:ByteArray} {us:List ACrd} (ht:aten X.ts t=some us) {c:ACrd} (hc:c∈us):c∈Y.cs/\c.tenant=t/\(t,us)∈X.ts:=by
 obtain ⟨A,B,e,_⟩:=z_eQ ht
 have hp:(t,us)∈X.ts:=by rw [e];simp
 exact ⟨h.csp.mem_iff.2 (List.mem_flatMap.2 ⟨_,hp,hc⟩),((h.tw _ hp).cs c hc).t,hp⟩
theorem Jn.wf (h:Jn X Y) {c:ACrd} (hc:c∈Y.cs):CWf c.tenant X.last c:=by
 obtain ⟨us,_,h2,h3⟩:=h.mem hc
 exact (h.tw _ h3).cs c h2
theorem z_u1 {l:List ACrd} (hl:l.Pairwise kl) {i j:Nat} {c d:ACrd} (hi:l[i]?=some c) (hj:l[j]?=some d) (h1:c.tenant=d.tenant) (h2:c.user=d.user):i=j:=by
 obtain ⟨h3,h4⟩:=List.getElem?_eq_some_iff.1 hi
 obtain ⟨h5,h6⟩:=List.getElem?_eq_some_iff.1 hj
 have hno: ¬kl c d:=by
  rintro (q | ⟨_,q⟩)
  ·rw [h1] at q;exact z_bU _ q
  ·rw [h2] at q;exact z_bU _ q
 have hno2: ¬kl d c:=by
  rintro (q | ⟨_,q⟩)
  ·rw [h1] at q;exact z_bU _ q
  ·rw [h2] at q;exact z_bU _ q
 rcases Nat.lt_trichotomy i j with q | q | q
 ·have:=List.pairwise_iff_getElem.1 hl i j h3 h5 q
  rw [h4,h6] at this
  exact absurd this hno
 ·exact q
 ·have:=List.pairwise_iff_getElem.1 hl j i h5 h3 q
  rw [h4,h6] at this
  exact absurd this hno2
structure Both (X:ASto) (Y:RA) (t u:ByteArray) (c:ACrd) (A B:ATs) (U V P Q:List ACrd):Prop where
 ts:X.ts=A++(t,U++c::V)::B
 upd: ∀f:ACrd->ACrd,atenU X.ts t (fun us=>ausrU us (nameA u).1 f)=A++(t,U++f c::V)::B
 del:atenU X.ts t (fun us=>ausrD us (nameA u).1)=A++(t,U++V)::B
 cs:Y.cs=P++c::Q
 one:oneR Y.cs t u=some (P.length,c)
 n:nameA u=(c.user,0)
 wf:CWf t X.last c
theorem Jn.both (h:Jn X Y) {t u:ByteArray} {c:ACrd} (hc:aone X t u=some c): ∃A B U V P Q,Both X Y t u c A B U V P Q:=by
 unfold aone at hc
 split at hc
 ·rename_i he
  unfold aget at hc
  cases ht:aten X.ts t with
  | none=>rw [ht] at hc;cases hc
  | some us=>
   rw [ht] at hc
   have hc':ausr us (nameA u).1=some c:=hc
   obtain ⟨A,B,e1,e2,e3⟩:=z_eQ ht
   obtain ⟨hu,U,V,f1,f2,f3⟩:=z_gc hc'
   have hcm:c∈us:=by rw [f1];simp
   obtain ⟨m1,m2,m3⟩:=h.inT ht hcm
   obtain ⟨k,hk⟩:=List.mem_iff_getElem?.1 m1
   obtain ⟨hkl,hke⟩:=List.getElem?_eq_some_iff.1 hk
   have hcs:Y.cs=Y.cs.take k++c::Y.cs.drop (k+1):=by
    rw [<-hke,List.getElem_cons_drop,List.take_append_drop]
   have hone:oneR Y.cs t u=some (k,c):=by
    have hf:fndR Y.cs t u=some k:=by
     unfold fndR
     rw [if_pos he,List.findIdx?_eq_some_iff_getElem]
     refine ⟨hkl,?_,fun j hj=>?_⟩
     ·rw [hke,m2,hu];simp
     ·intro q
      simp only [Bool.and_eq_true,decide_eq_true_eq] at q
      have:=z_u1 h.csr (List.getElem?_eq_getElem (show j<Y.cs.length by omega)) hk (by rw [q.1,m2]) (by rw [q.2,hu])
      omega
    unfold oneR
    rw [hf]
    simp only [hk]
   refine ⟨A,B,U,V,Y.cs.take k,Y.cs.drop (k+1),by rw [<-f1];exact e1,fun f=>by rw [e2,f2],by rw [e2,f3],hcs,?_,?_,(h.tw _ m3).cs c hcm⟩
   ·rw [hone,List.length_take,Nat.min_eq_left (Nat.le_of_lt hkl)]
   ·rw [hu,<-he]
 ·cases hc
theorem Jn.neither (h:Jn X Y) {t u:ByteArray} (hc:aone X t u=none):oneR Y.cs t u=none:=by
 have hf:fndR Y.cs t u=none:=by
  unfold fndR
  split
  ·rename_i he
   rw [List.findIdx?_eq_none_iff]
   intro d hd
   rw [Bool.eq_false_iff]
   intro q
   simp only [Bool.and_eq_true,decide_eq_true_eq] at q
   obtain ⟨us,h1,h2,h3⟩:=h.mem hd
   unfold aone at hc
   rw [if_pos he] at hc
   unfold aget at hc
   rw [<-q.1,h1] at hc
   have hc':ausr us (nameA u).1=none:=hc
   rw [<-q.2,z_o6 (h.tw _ h3).nd h2] at hc'
   cases hc'
  ·rfl
 unfold oneR
 rw [hf]
def Jn2 (r:Int×ASto) (q:Int×RA):Prop:=r.1=q.1/\Jn r.2 q.2
theorem z_kP {l:List ByteArray} {x:ByteArray} (hs:l.Pairwise tlt): ∀k y,l[k]?=some y->(k<rank l x↔tlt y x):=by
 intro k y hy
 have hkl:=(List.getElem?_eq_some_iff.1 hy).1
 induction l generalizing k with
 | nil=>cases hkl
 | cons z r ih=>
  rw [List.pairwise_cons] at hs
  cases k with
  | zero=>
   obtain rfl:z=y:=by simpa using hy
   unfold rank
   by_cases h:tlt z x
   ·simp [h]
   ·have:r.filter (fun y=>decide (tlt y x))=[]:=by
     rw [List.filter_eq_nil_iff]
     intro a ha q
     exact h (z_b8 (hs.1 a ha) (of_decide_eq_true q))
    simp [h,this]
  | succ k=>
   have hy':r[k]?=some y:=by simpa using hy
   have hkr:=(List.getElem?_eq_some_iff.1 hy').1
   have h2:=ih hs.2 k hy' hkr
   by_cases h:tlt z x
   ·have e:rank (z::r) x=rank r x+1:=by unfold rank;simp [h]
    rw [e]
    exact (Nat.succ_lt_succ_iff).trans h2
   ·have h3: ¬tlt y x:=fun q=>h (z_b8 (hs.1 y (List.mem_of_getElem? hy')) q)
    have:r.filter (fun y=>decide (tlt y x))=[]:=by
     rw [List.filter_eq_nil_iff]
     intro a ha q
     exact h (z_b8 (hs.1 a ha) (of_decide_eq_true q))
    have e:rank (z::r) x=0:=by unfold rank;simp [h,this]
    rw [e]
    constructor
    ·intro q;omega
    ·intro q;exact absurd q h3
theorem z_qQ (l:List ByteArray) (i:Nat) (x:ByteArray):(insT l i x).Perm (x::l):=by
 unfold insT
 refine List.perm_middle.trans ?_
 rw [List.take_append_drop]
theorem z_sQ {l:List ByteArray} {x:ByteArray} (hs:l.Pairwise tlt) (hx:x∉l):(insT l (rank l x) x).Pairwise tlt:=by
 unfold insT
 have h0:=hs
 rw [<-List.take_append_drop (rank l x) l,List.pairwise_append] at h0
 obtain ⟨s1,s2,s3⟩:=h0
 have hlt: ∀y∈l.take (rank l x),tlt y x:=by
  intro y hy
  obtain ⟨k,hk⟩:=List.mem_iff_getElem?.1 hy
  rw [List.getElem?_take] at hk
  split at hk
  ·rename_i hlt
   exact (z_kP hs k y hk).1 hlt
  ·cases hk
 have hgt: ∀y∈l.drop (rank l x),tlt x y:=by
  intro y hy
  obtain ⟨k,hk⟩:=List.mem_iff_getElem?.1 hy
  rw [List.getElem?_drop] at hk
  have h1: ¬tlt y x:=fun q=>by
   have:=(z_kP hs _ y hk).2 q
   omega
  rcases z_ne x y with q | q | q
  ·exact q
  ·exact absurd (q▸List.mem_of_getElem? hk) hx
  ·exact absurd q h1
 rw [List.pairwise_append,List.pairwise_cons]
 refine ⟨s1,⟨hgt,s2⟩,fun a ha b hb=>?_⟩
 rcases List.mem_cons.1 hb with rfl | hb
 ·exact hlt a ha
 ·exact s3 a ha b hb
theorem Jn.raise (h:Jn X Y) (n:Nat):Jn2 (raiseA X n) (raiseTR Y n):=by
 unfold raiseA raiseTR
 split
 ·exact ⟨rfl,h⟩
 ·have:=h.great
  refine ⟨rfl,by show max X.last n=max Y.last n;rw [h.last],h.reads,by show max X.last n<=_;omega,h.nd,h.len,fun p hp=>(h.tw p hp).mono (by show X.last<=max X.last n;omega),h.tsr,h.tsp,h.csr,h.csp⟩
theorem z_jr {t:ByteArray} (h:plainF t.data.toList=true):t.size<=32:=by
 unfold plainF at h
 simp only [Bool.and_eq_true,decide_eq_true_eq] at h
 exact h.2.2
theorem Jn.tend (h:Jn X Y) {t:ByteArray} (ht:aten X.ts t=none) (hsz:t.size<=32) (h8:X.ts.length<8) (us:List ACrd) (hw:TWf X.last (t,us)) (cs:List ACrd) (hs:cs.Pairwise kl) (hp:cs.Perm (X.ts.flatMap (·.2)++us)):
  Jn {X with ts:=X.ts++[(t,us)]} {Y with ts:=insT Y.ts (rank Y.ts t) t,cs:=cs}:=by
 have hno:=aten_none.1 ht
 refine ⟨h.last,h.reads,h.great,?_,by rw [List.length_append];show X.ts.length+1<=8;omega,fun p hp=>?_,z_sQ h.tsr (fun q=>hno (h.tsp.mem_iff.1 q)),?_,hs,by simpa [List.flatMap_append] using hp⟩
 ·rw [List.map_append,List.nodup_append]
  refine ⟨h.nd,by simp,fun a ha b hb=>?_⟩
  obtain rfl:=List.mem_singleton.1 hb
  exact fun q=>hno (q▸ha)
 ·rcases List.mem_append.1 hp with hp | hp
  ·exact h.tw p hp
  ·obtain rfl:=List.mem_singleton.1 hp
   exact hw
 ·rw [List.map_append]
  exact (z_qQ _ _ _).trans ((h.tsp.cons t).trans (List.perm_append_singleton t _).symm)
theorem Jn.addT (h:Jn X Y) (t:ByteArray):Jn2 (addT X t) (addTR Y t):=by
 unfold Sx.addT addTR
 rw [h.has,h.tlen]
 by_cases hp:plainF t.data.toList=false
 ·rw [if_pos hp,if_pos hp];exact ⟨rfl,h⟩
 ·rw [if_neg hp,if_neg hp]
  by_cases ha:(aten X.ts t).isSome=true
  ·rw [if_pos ha,if_pos ha];exact ⟨rfl,h⟩
  ·rw [if_neg ha,if_neg ha]
   by_cases h8:8<=X.ts.length
   ·rw [if_pos h8,if_pos h8];exact ⟨rfl,h⟩
   ·rw [if_neg h8,if_neg h8]
    have hsz:=z_jr (t:=t) (by simpa using hp)
    have ht:aten X.ts t=none:=by
     cases hq:aten X.ts t with
     | none=>rfl
     | some us=>rw [hq] at ha;exact absurd rfl ha
    exact ⟨rfl,h.tend ht hsz (by omega) [] ⟨Nat.zero_le _,List.nodup_nil,fun c hc=>(by cases hc),hsz⟩ Y.cs h.csr (by rw [List.append_nil];exact h.csp)⟩
theorem z_oN {ts:ATs} (hn:(ts.map (·.1)).Nodup) {last:Nat} (hw: ∀p∈ts,TWf last p) (t:ByteArray):(ts.flatMap (·.2)).filter (fun c=>decide (c.tenant=t))=(aten ts t).getD []:=by
 induction ts with
 | nil=>rfl
 | cons p r ih=>
  obtain ⟨k,us⟩:=p
  rw [List.map_cons,List.nodup_cons] at hn
  have hk:=hw (k,us) List.mem_cons_self
  have hr:=fun q hq=>hw q (List.mem_cons_of_mem (k,us) hq)
  rw [List.flatMap_cons,List.filter_append,ih hn.2 hr]
  by_cases h:k=t
  ·subst h
   have h2:aten r k=none:=aten_none.2 hn.1
   rw [h2]
   simp only [aten,if_true,Option.getD_none,Option.getD_some,List.append_nil]
   exact List.filter_eq_self.2 fun c hc=>decide_eq_true (hk.cs c hc).t
  ·have:us.filter (fun c=>decide (c.tenant=t))=[]:=List.filter_eq_nil_iff.2 fun c hc q=>h ((hk.cs c hc).t.symm.trans (of_decide_eq_true q))
   simp only [aten,if_neg h,this,List.nil_append]
theorem Jn.inTl (h:Jn X Y) (t:ByteArray):(inTA Y.cs t).length=((aten X.ts t).getD []).length:=by
 unfold inTA
 rw [(h.csp.filter _).length_eq,z_oN h.nd h.tw]
theorem z_iN (cs:List ACrd) (c:ACrd):(insA cs c).Perm (c::cs):=by
 unfold insA
 refine List.perm_middle.trans ?_
 rw [List.takeWhile_append_dropWhile]
theorem z_mS: ∀ {cs:List ACrd} {c:ACrd},cs.Pairwise kl->(∀d∈cs,¬(d.tenant=c.tenant/\d.user=c.user))->(insA cs c).Pairwise kl
 | [],c,_,_=>by simp [insA]
 | d::r,c,hs,hn=>by
  rw [List.pairwise_cons] at hs
  have ih:=z_mS hs.2 (fun x hx=>hn x (List.mem_cons_of_mem _ hx))
  by_cases h:ltB d c=true
  ·have e:insA (d::r) c=d::insA r c:=by unfold insA;simp [h]
   rw [e,List.pairwise_cons]
   refine ⟨fun x hx=>?_,ih⟩
   rcases List.mem_cons.1 ((z_iN r c).mem_iff.1 hx) with rfl | hx
   ·exact ltB_iff.1 h
   ·exact hs.1 x hx
  ·have e:insA (d::r) c=c::d::r:=by unfold insA;simp [h]
   have hcd:kl c d:=by
    rcases z_vH c d (fun q=>hn d List.mem_cons_self ⟨q.1.symm,q.2.symm⟩) with q | q
    ·exact q
    ·exact absurd (ltB_iff.2 q) h
   rw [e,List.pairwise_cons,List.pairwise_cons]
   refine ⟨fun x hx=>?_,hs⟩
   rcases List.mem_cons.1 hx with rfl | hx
   ·exact hcd
   ·exact z_s0 hcd (hs.1 x hx)
theorem Jn.more (h:Jn X Y) {t:ByteArray} {us:List ACrd} (ht:aten X.ts t=some us) (h32:us.length<32) {L:Nat} (hL:X.last<=L) (hg:L<=greatN) {c:ACrd} (hc:CWf t L c) (hno:ausr us c.user=none):
  Jn {X with ts:=atenU X.ts t (fun us=>us++[c]),last:=L} {Y with cs:=insA Y.cs c,last:=L}:=by
 obtain ⟨A,B,e1,e2,e3⟩:=z_eQ ht
 have hm:(A++(t,us++[c])::B).map (·.1)=X.ts.map (·.1):=by rw [e1];simp
 have hn:=ausr_none.1 hno
 rw [e2]
 refine ⟨rfl,h.reads,hg,by rw [hm];exact h.nd,?_,?_,h.tsr,by rw [hm];exact h.tsp,?_,?_⟩
 ·have:=h.len;rw [e1] at this;simpa using this
 ·intro p hp
  rcases List.mem_append.1 hp with hp | hp
  ·exact (h.tw p (by rw [e1];exact List.mem_append_left _ hp)).mono hL
  ·rcases List.mem_cons.1 hp with rfl | hp
   ·have hw:=h.tw (t,us) (by rw [e1];simp)
    refine ⟨by rw [List.length_append];show us.length+1<=32;omega,?_,fun d hd=>?_,hw.sz⟩
    ·rw [List.map_append,List.nodup_append]
     refine ⟨hw.nd,by simp,fun a ha b hb=>?_⟩
     obtain rfl:=List.mem_singleton.1 hb
     exact fun q=>hn (by have q':a=c.user:=q;rw [<-q'];exact ha)
    ·rcases List.mem_append.1 hd with hd | hd
     ·exact (hw.cs d hd).mono hL
     ·obtain rfl:=List.mem_singleton.1 hd
      exact hc
   ·exact (h.tw p (by rw [e1];exact List.mem_append_right _ (List.mem_cons_of_mem _ hp))).mono hL
 ·refine z_mS h.csr fun d hd q=>?_
  obtain ⟨us',h1,h2,_⟩:=h.mem hd
  rw [q.1,hc.t,ht] at h1
  obtain rfl:=Option.some.inj h1
  exact hn (q.2▸List.mem_map.2 ⟨d,h2,rfl⟩)
 ·refine (z_iN _ _).trans ((h.csp.cons c).trans ?_)
  rw [e1]
  simp only [List.flatMap_append,List.flatMap_cons,List.append_assoc,List.cons_append,List.nil_append]
  rw [<-List.append_assoc,<-List.append_assoc]
  exact List.perm_middle.symm
theorem Jn.load (h:Jn X Y) (c:ACrd):Jn2 (loadA X c) (loadR Y c):=by
 unfold loadA loadR
 rw [h.has,h.inTl]
 by_cases hp:(plainF c.tenant.data.toList&&allPl c.roles)=false
 ·rw [if_pos hp,if_pos hp];exact ⟨rfl,h⟩
 ·rw [if_neg hp,if_neg hp]
  by_cases hf: ¬((nameA c.user).2=0/\(nameA c.user).1=c.user/\risB c.roles=true/\rightA c.sec=true/\1<=c.gen/\c.gen<=greatN)
  ·rw [if_pos hf,if_pos hf];exact ⟨rfl,h⟩
  ·rw [if_neg hf,if_neg hf]
   obtain ⟨f1,f2,f3,f4,f5,f6⟩:=Decidable.not_not.1 hf
   have hn:nameA c.user=(c.user,0):=Prod.ext f2 f1
   unfold risB at f3
   simp only [Bool.and_eq_true,decide_eq_true_eq] at f3
   have hgr:=h.great
   have hsz:c.tenant.size<=32:=z_jr (by
    have:(plainF c.tenant.data.toList&&allPl c.roles)=true:=by simpa using hp
    rw [Bool.and_eq_true] at this
    exact this.1)
   have hw: ∀L,c.gen<=L->CWf c.tenant L c:=fun L hL=>⟨rfl,hn,f3.1,f3.2,f4,hL⟩
   rw [<-h.last]
   have hget:aone X c.tenant c.user=(aten X.ts c.tenant).bind fun us=>ausr us c.user:=by
    unfold aone aget
    rw [if_pos f1,f2]
   cases ht:aten X.ts c.tenant with
   | none=>
    rw [ht] at hget
    rw [h.neither hget,h.tlen]
    simp only [Option.isSome_none,Bool.false_eq_true,true_and,if_false,Option.getD_none,List.length_nil]
    by_cases h8:8<=X.ts.length
    ·rw [if_pos h8,if_pos h8];exact ⟨rfl,h⟩
    ·rw [if_neg h8,if_neg h8,if_neg (by decide)]
     have h2:Jn {X with last:=max X.last c.gen} {Y with last:=max X.last c.gen}:=⟨rfl,h.reads,by show max X.last c.gen<=_;omega,h.nd,h.len,fun p hp=>(h.tw p hp).mono (by show X.last<=max X.last c.gen;omega),h.tsr,h.tsp,h.csr,h.csp⟩
     refine ⟨rfl,h2.tend ht hsz (by show X.ts.length<8;omega) [c] ⟨by simp,by simp,fun d hd=>?_,hsz⟩ (insA Y.cs c) (z_mS h.csr fun d hd q=>?_) ((z_iN _ _).trans ((h.csp.cons c).trans (List.perm_append_singleton c _).symm))⟩
     ·obtain rfl:=List.mem_singleton.1 hd
      exact hw _ (by show _<=max _ _;omega)
     ·obtain ⟨us',k1,_,_⟩:=h.mem hd
      rw [q.1,ht] at k1
      cases k1
   | some us=>
    rw [ht] at hget
    have hget':aone X c.tenant c.user=ausr us c.user:=hget
    cases ha:ausr us c.user with
    | some d=>
     obtain ⟨A,B,U,V,P,Q,b⟩:=h.both (hget'.trans ha)
     rw [b.one]
     simp only [ha]
     exact ⟨rfl,h⟩
    | none=>
     rw [h.neither (hget'.trans ha)]
     simp only [ha,Option.isSome_some,Bool.true_eq_false,false_and,if_false,Option.getD_some,if_true,Option.isSome_none,Bool.false_eq_true]
     by_cases h32:32<=us.length
     ·rw [if_pos h32,if_pos h32];exact ⟨rfl,h⟩
     ·rw [if_neg h32,if_neg h32]
      exact ⟨rfl,h.more ht (by omega) (L:=max X.last c.gen) (by omega) (by omega) (hw _ (by omega)) ha⟩
end
theorem z_bV (l:List ByteArray):(sortK l).Perm l:=by
 unfold sortK
 have h:=(List.mergeSort_perm (l.map fun s=>s.data.toList) leB).map mkS
 refine h.trans ?_
 rw [List.map_map]
 have:(mkS∘fun s:ByteArray=>s.data.toList)=id:=by
  funext s
  simp [mkS]
 rw [this,List.map_id]
theorem z_k4 {l:List ByteArray} (hn:l.Nodup):(sortK l).Pairwise tlt:=by
 have h1:((l.map fun s=>s.data.toList).mergeSort leB).Pairwise (fun a b=>leB a b=true):=by
  refine List.pairwise_mergeSort ?_ ?_ _
  ·intro a b c h1 h2
   exact decide_eq_true (List.le_trans (of_decide_eq_true h1) (of_decide_eq_true h2))
  ·intro a b
   simp only [leB,Bool.or_eq_true,decide_eq_true_eq]
   exact List.le_total a b
 have h2:(sortK l).Pairwise (fun a b=> ¬tlt b a):=by
  unfold sortK
  rw [List.pairwise_map]
  refine h1.imp fun {a b} h q=>?_
  unfold tlt at q
  rw [z_iX,z_iX] at q
  exact List.not_lt.2 (of_decide_eq_true h) (by simpa [mkS] using q)
 have h3:(sortK l).Nodup:=(z_bV l).nodup_iff.2 hn
 refine (h2.and h3).imp fun {a b} h=>?_
 rcases z_ne a b with q | q | q
 ·exact q
 ·exact absurd q h.2
 ·exact absurd q h.1
theorem z_vM {l m:List ByteArray} (hl:l.Pairwise tlt) (hm:m.Pairwise tlt) (h:l.Perm m):l=m:=
 h.eq_of_pairwise (le:=tlt) (fun _ _ _ _ q1 q2=>absurd q2 (z_iC q1)) hl hm
def usL (us:List ACrd):List ACrd:=(sortK (us.map (·.user))).filterMap (ausr us)
def allU (ts:ATs):List ACrd:=(sortK (ts.map (·.1))).flatMap fun t=>usL ((aten ts t).getD [])
theorem z_lM {us:List ACrd} (hn:(us.map (·.user)).Nodup): ∀(l:List ACrd),(∀c∈l,c∈us)->(l.map (·.user)).filterMap (ausr us)=l
 | [],_=>rfl
 | c::r,h=>by
  rw [List.map_cons,List.filterMap_cons,z_o6 hn (h c List.mem_cons_self)]
  simp only
  rw [z_lM hn r (fun x hx=>h x (List.mem_cons_of_mem _ hx))]
theorem z_jb {us:List ACrd} (hn:(us.map (·.user)).Nodup):(usL us).Perm us:=by
 unfold usL
 have h:=(z_bV (us.map (·.user))).filterMap (ausr us)
 rw [z_lM hn us (fun _ h=>h)] at h
 exact h
theorem z_sa {us:List ACrd} (hn:(us.map (·.user)).Nodup):(usL us).Pairwise (fun a b=>tlt a.user b.user):=by
 unfold usL
 rw [List.pairwise_filterMap]
 refine (z_k4 hn).imp fun {a b} h c hc d hd=>?_
 rw [(z_gc hc).1,(z_gc hd).1]
 exact h
theorem z_ns {α β:Type} {l m:List α} (f:α->List β) (h:l.Perm m):(l.flatMap f).Perm (m.flatMap f):=by
 induction h with
 | nil=>exact List.Perm.refl _
 | cons x _ ih=>rw [List.flatMap_cons,List.flatMap_cons];exact ih.append_left _
 | swap x y l=>
  simp only [List.flatMap_cons]
  rw [<-List.append_assoc,<-List.append_assoc]
  exact List.perm_append_comm.append_right _
 | trans _ _ ih1 ih2=>exact ih1.trans ih2
theorem z_iE {α β:Type} (f g:α->List β): ∀(l:List α),(∀x∈l,(f x).Perm (g x))->(l.flatMap f).Perm (l.flatMap g)
 | [],_=>List.Perm.refl _
 | x::r,h=>by
  rw [List.flatMap_cons,List.flatMap_cons]
  exact (h x List.mem_cons_self).append (z_iE f g r (fun y hy=>h y (List.mem_cons_of_mem _ hy)))
theorem Jn.names {X:ASto} {Y:RA} (h:Jn X Y):sortK (X.ts.map (·.1))=Y.ts:=z_vM (z_k4 h.nd) h.tsr ((z_bV _).trans h.tsp.symm)
theorem Jn.all {X:ASto} {Y:RA} (h:Jn X Y):allU X.ts=Y.cs:=by
 have hget: ∀p∈X.ts,(aten X.ts p.1).getD []=p.2:=fun p hp=>by rw [z_pi h.nd (t:=p.1) (us:=p.2) hp];rfl
 refine List.Perm.eq_of_pairwise (le:=kl) (fun _ _ _ _ q1 q2=>absurd q2 (z_sz q1)) ?_ h.csr ?_
 ·unfold allU
  rw [List.pairwise_flatMap]
  have hmem: ∀t∈sortK (X.ts.map (·.1)),∀c∈usL ((aten X.ts t).getD []),c.tenant=t:=by
   intro t ht c hc
   obtain ⟨p,hp,rfl⟩:=List.mem_map.1 ((z_bV _).mem_iff.1 ht)
   rw [hget p hp] at hc
   exact ((h.tw p hp).cs c ((z_jb (h.tw p hp).nd).mem_iff.1 hc)).t
  refine ⟨fun t ht=>?_,?_⟩
  ·obtain ⟨p,hp,rfl⟩:=List.mem_map.1 ((z_bV _).mem_iff.1 ht)
   refine List.Pairwise.imp_of_mem (fun {a b} ha hb q=>?_) (by rw [hget p hp];exact z_sa (h.tw p hp).nd)
   exact .inr ⟨(hmem _ ht a ha).trans (hmem _ ht b hb).symm,q⟩
  ·refine List.Pairwise.imp_of_mem (fun {a b} ha hb q c hc d hd=>?_) (z_k4 h.nd)
   exact .inl (by rw [hmem a ha c hc,hmem b hb d hd];exact q)
 ·refine List.Perm.trans ?_ h.csp.symm
  unfold allU
  refine (z_ns _ (z_bV _)).trans ?_
  rw [List.flatMap_map]
  exact z_iE _ _ _ fun p hp=>by rw [hget p hp];exact z_jb (h.tw p hp).nd
end Go.Proofs.YtloeaiafphkjnaaGreatDoor.Sx
namespace Go.Proofs.YtloeaiafphkjnaaGreatDoor.Sx
open Go
attribute [local irreducible] Calls
theorem mkSo (l:List UInt8):(mkS l).data.toList=l:=by simp [mkS]
theorem mkS1 {a b:List UInt8} (h:mkS a=mkS b):a=b:=by
 have:=congrArg (fun s:ByteArray=>s.data.toList) h
 simpa only [mkSo] using this
def att (p:List UInt8):List (List UInt8)->List (List UInt8)
 | []=>[p]
 | h::t=>(p++h)::t
def splL (d:UInt8):List UInt8->List (List UInt8)
 | []=>[[]]
 | c::r=>if c=d then []::splL d r else att [c] (splL d r)
theorem z_eM (d c:UInt8) (r:List UInt8):splL d (c::r)=if c=d then []::splL d r else att [c] (splL d r):=rfl
theorem z_vo (p:List UInt8) (L:List (List UInt8)):att p L≠[]:=by cases L<;>simp [att]
theorem z_f6 (d:UInt8) (s:List UInt8):splL d s≠[]:=by
 cases s with
 | nil=>simp [splL]
 | cons c r=>
  unfold splL
  split
  ·simp
  ·exact z_vo _ _
theorem z_uQ (p q:List UInt8) (L:List (List UInt8)):att p (att q L)=att (p++q) L:=by cases L<;>simp [att]
theorem z_r1 {L:List (List UInt8)} (h:L≠[]):att [] L=L:=by cases L with
 | nil=>exact absurd rfl h
 | cons a t=>rfl
theorem z_bi {d:UInt8}: ∀ {l:List UInt8},d∉l->splL d l=[l]
 | [],_=>rfl
 | c::r,h=>by
  have ih:=z_bi (l:=r) (fun q=>h (List.mem_cons_of_mem _ q))
  rw [z_eM,if_neg (fun e=>h (by rw [e];exact List.mem_cons_self)),ih]
  rfl
theorem z_ih {d:UInt8} (r:List UInt8): ∀ {l:List UInt8},d∉l->splL d (l++d::r)=l::splL d r
 | [],_=>by show splL d (d::r)=_;rw [z_eM,if_pos rfl]
 | c::t,h=>by
  have ih:=z_ih r (l:=t) (fun q=>h (List.mem_cons_of_mem _ q))
  show splL d (c::(t++d::r))=_
  rw [z_eM,if_neg (fun e=>h (by rw [e];exact List.mem_cons_self)),ih]
  rfl
def lnL (s:List UInt8):List (List UInt8):=if (splL 10 s).getLast?=some [] then (splL 10 s).dropLast else splL 10 s
theorem z_qG:lnL []=[]:=rfl
theorem z_s2 {l:List UInt8} (h:(10:UInt8)∉l) (h0:l≠[]):lnL l=[l]:=by
 unfold lnL
 rw [z_bi h,if_neg (fun e=>h0 (by simpa using e))]
theorem z_qD {l:List UInt8} (r:List UInt8) (h:(10:UInt8)∉l):lnL (l++10::r)=l::lnL r:=by
 unfold lnL
 rw [z_ih r h]
 obtain ⟨a,t,e⟩: ∃a t,splL 10 r=a::t:=by
  cases q:splL 10 r with
  | nil=>exact absurd q (z_f6 _ _)
  | cons a t=>exact ⟨a,t,rfl⟩
 rw [e]
 rw [show (l::a::t).getLast?=(a::t).getLast? from rfl]
 split
 ·rfl
 ·rfl
def hdA (d:UInt8):List UInt8->List UInt8
 | []=>[]
 | c::r=>if c=d then [] else c::hdA d r
def hdB (d:UInt8):List UInt8->List UInt8
 | []=>[]
 | c::r=>if c=d then r else hdB d r
theorem z_kv (d c:UInt8) (r:List UInt8):hdA d (c::r)=if c=d then [] else c::hdA d r:=rfl
theorem z_kA (d c:UInt8) (r:List UInt8):hdB d (c::r)=if c=d then r else hdB d r:=rfl
theorem z_iY (d:UInt8): ∀s:List UInt8,d∉hdA d s
 | []=>by simp [hdA]
 | c::r=>by
  rw [z_kv]
  by_cases h:c=d
  ·rw [if_pos h];exact fun q=>by cases q
  ·rw [if_neg h]
   intro q
   rcases List.mem_cons.1 q with q | q
   ·exact h q.symm
   ·exact z_iY d r q
theorem z_g3 {d:UInt8}: ∀ {s:List UInt8},d∈s->s=hdA d s++d::hdB d s
 | [],h=>by cases h
 | c::r,h=>by
  rw [z_kv,z_kA]
  by_cases e:c=d
  ·rw [if_pos e,if_pos e,e];rfl
  ·rw [if_neg e,if_neg e]
   have hr:d∈r:=(List.mem_cons.1 h).elim (fun q=>absurd q.symm e) id
   exact congrArg (c:: ·) (z_g3 hr)
theorem z_lt {d:UInt8}: ∀ {s:List UInt8},d∉s->hdA d s=s/\hdB d s=[]
 | [],_=>⟨rfl,rfl⟩
 | c::r,h=>by
  have hc: ¬c=d:=fun e=>h (by rw [e];exact List.mem_cons_self)
  obtain ⟨e1,e2⟩:=z_lt (s:=r) fun q=>h (List.mem_cons_of_mem _ q)
  rw [z_kv,z_kA,if_neg hc,if_neg hc,e1,e2]
  exact ⟨rfl,rfl⟩
theorem z_po {s:List UInt8} (h0:s≠[]):lnL s=hdA 10 s::lnL (hdB 10 s):=by
 by_cases h:(10:UInt8)∈s
 ·conv=>lhs;rw [z_g3 h]
  rw [z_qD _ (z_iY _ _)]
 ·obtain ⟨e1,e2⟩:=z_lt h
  rw [z_s2 h h0,e1,e2]
  rfl
theorem z_ox (d:UInt8): ∀s:List UInt8,_root_.Go.Lib.index s [d]=if d∈s then ((hdA d s).length:Int) else -1
 | []=>by rw [if_neg (fun h=>by cases h)];rfl
 | c::r=>by
  have ih:=z_ox d r
  unfold _root_.Go.Lib.index
  rw [z_kv]
  by_cases hc:c=d
  ·rw [if_pos (by simp [hc]),if_pos (by rw [hc];exact List.mem_cons_self),if_pos hc]
   rfl
  ·rw [if_neg (by simpa using fun h=>hc h.symm),if_neg hc,ih]
   by_cases hr:d∈r
   ·rw [if_pos hr,if_pos (List.mem_cons_of_mem _ hr),if_neg (by simp)]
    simp
   ·rw [if_neg hr,if_neg (fun q=>(List.mem_cons.1 q).elim (fun q=>hc q.symm) hr)]
    rfl
theorem z_vf (d:UInt8) (s:List UInt8):_root_.Go.Lib.cut s [d]=(hdA d s,hdB d s,decide (d∈s)):=by
 unfold _root_.Go.Lib.cut
 rw [z_ox]
 by_cases h:d∈s
 ·have e:=z_g3 h
  rw [if_pos h,if_pos (Int.natCast_nonneg _),Int.toNat_natCast]
  rw [show decide (d∈s)=true from by simpa using h]
  have hl: ∀a b:List UInt8,s=a++d::b->(s.take a.length,s.drop (a.length+[d].length),true)=(a,b,true):=by
   intro a b e
   subst e
   rw [List.take_left,<-List.drop_drop,List.drop_left]
   rfl
  exact hl _ _ e
 ·obtain ⟨e1,e2⟩:=z_lt h
  rw [if_neg h,if_neg (by decide),e1,e2,show decide (d∈s)=false from by simpa using h]
end Go.Proofs.YtloeaiafphkjnaaGreatDoor.Sx
namespace Go.Proofs.YtloeaiafphkjnaaGreatDoor.Sx
open Go
def e62:Bool->UInt8
 | true=>45
 | false=>43
def e63:Bool->UInt8
 | true=>95
 | false=>47
def valA (url:Bool) (c:UInt8):Option Nat:=
 if 65<=c.toNat/\c.toNat<=90 then some (c.toNat - 65) else if 97<=c.toNat/\c.toNat<=122 then some (c.toNat - 97+26) else if 48<=c.toNat/\c.toNat<=57 then some (c.toNat - 48+52)
 else if c=e62 url then some 62 else if c=e63 url then some 63 else none
theorem z_or {url:Bool} {c:UInt8} {n:Nat} (h:valA url c=some n):n<64:=by
 have key: ∀u:Bool,∀m:_root_.Fin 256,((valA u (UInt8.ofNat m.1)).all fun k=>decide (k<64))=true:=by decide+kernel
 have h2:=key url ⟨c.toNat,c.toNat_lt⟩
 simp only [UInt8.ofNat_toNat,h,Option.all_some,decide_eq_true_eq] at h2
 exact h2
def letA (url:Bool) (n:Nat):UInt8:=
 if n<26 then UInt8.ofNat (65+n) else if n<52 then UInt8.ofNat (97+n - 26) else if n<62 then UInt8.ofNat (48+n - 52) else if n=62 then e62 url else e63 url
theorem z_rw (url:Bool) (c:UInt8):valA url c=(List.range 64).find? (fun n=>decide (letA url n=c)):=by
 have key: ∀u:Bool,∀n:_root_.Fin 256,valA u (UInt8.ofNat n.1)=(List.range 64).find? (fun k=>decide (letA u k=UInt8.ofNat n.1)):=by decide+kernel
 have h:=key url ⟨c.toNat,c.toNat_lt⟩
 simpa using h
def u8n (n:Nat):UInt8:=UInt8.ofNat n
def decG:List Nat->Option (List UInt8)
 | a::b::c::d::r=>(decG r).map fun l=>u8n (a*4+b/16)::u8n (b%16*16+c/4)::u8n (c%4*64+d)::l
 | [a,b,c]=>if c%4=0 then some [u8n (a*4+b/16),u8n (b%16*16+c/4)] else none
 | [a,b]=>if b%16=0 then some [u8n (a*4+b/16)] else none
 | [_]=>none
 | []=>some []
def rbits (v:Nat):List UInt8:=[u8n (v/32%2),u8n (v/16%2),u8n (v/8%2),u8n (v/4%2),u8n (v/2%2),u8n (v%2)]
def fold8 (l:List UInt8):UInt8:=l.foldl (fun b x=>b*2+x) 0
def chop:List UInt8->List UInt8×List UInt8
 | a::b::c::d::e::f::g::h::r=>(fold8 [a,b,c,d,e,f,g,h]::(chop r).1,(chop r).2)
 | l=>([],l)
def refG (vs:List Nat):Option (List UInt8):=if (chop (vs.flatMap rbits)).2.all (fun x=>decide (x=0)) then some (chop (vs.flatMap rbits)).1 else none
theorem by1 {a b:Nat} (ha:a<64) (hb:b<64):fold8 (rbits a++(rbits b).take 2)=u8n (a*4+b/16):=by
 have key: ∀x y:_root_.Fin 64,fold8 (rbits x.1++(rbits y.1).take 2)=u8n (x.1*4+y.1/16):=by decide+kernel
 exact key ⟨a,ha⟩ ⟨b,hb⟩
theorem by2 {a b:Nat} (ha:a<64) (hb:b<64):fold8 ((rbits a).drop 2++(rbits b).take 4)=u8n (a%16*16+b/4):=by
 have key: ∀x y:_root_.Fin 64,fold8 ((rbits x.1).drop 2++(rbits y.1).take 4)=u8n (x.1%16*16+y.1/4):=by decide+kernel
 exact key ⟨a,ha⟩ ⟨b,hb⟩
theorem by3 {a b:Nat} (ha:a<64) (hb:b<64):fold8 ((rbits a).drop 4++rbits b)=u8n (a%4*64+b):=by
 have key: ∀x y:_root_.Fin 64,fold8 ((rbits x.1).drop 4++rbits y.1)=u8n (x.1%4*64+y.1):=by decide+kernel
 exact key ⟨a,ha⟩ ⟨b,hb⟩
theorem le4 {a:Nat} (ha:a<64):((rbits a).drop 2).all (fun x=>decide (x=0))=decide (a%16=0):=by
 have key: ∀x:_root_.Fin 64,((rbits x.1).drop 2).all (fun x=>decide (x=0))=decide (x.1%16=0):=by decide+kernel
 exact key ⟨a,ha⟩
theorem le2 {a:Nat} (ha:a<64):((rbits a).drop 4).all (fun x=>decide (x=0))=decide (a%4=0):=by
 have key: ∀x:_root_.Fin 64,((rbits x.1).drop 4).all (fun x=>decide (x=0))=decide (x.1%4=0):=by decide+kernel
 exact key ⟨a,ha⟩
theorem chop8 (l:List UInt8) (h:l.length=8) (r:List UInt8):chop (l++r)=(fold8 l::(chop r).1,(chop r).2):=by
 match l,h with
 | [a,b,c,d,e,f,g,i],_=>rfl
theorem z_qS: ∀(vs:List Nat),(∀v∈vs,v<64)->vs.length%4≠1->refG vs=decG vs
 | [],_,_=>rfl
 | [a],_,h=>absurd rfl h
 | [a,b],hv,_=>by
  have ha:=hv a (by simp)
  have hb:=hv b (by simp)
  have e:([a,b].flatMap rbits)=(rbits a++(rbits b).take 2)++(rbits b).drop 2:=by simp [rbits]
  unfold refG
  rw [e,chop8 _ (by rfl),by1 ha hb]
  have e2:chop ((rbits b).drop 2)=([],(rbits b).drop 2):=rfl
  rw [e2]
  simp only [le4 hb,decG]
  by_cases q:b%16=0<;>simp [q]
 | [a,b,c],hv,_=>by
  have ha:=hv a (by simp)
  have hb:=hv b (by simp)
  have hc:=hv c (by simp)
  have e:([a,b,c].flatMap rbits)=(rbits a++(rbits b).take 2)++(((rbits b).drop 2++(rbits c).take 4)++(rbits c).drop 4):=by simp [rbits]
  unfold refG
  rw [e,chop8 _ (by rfl),by1 ha hb,chop8 _ (by rfl),by2 hb hc]
  have e2:chop ((rbits c).drop 4)=([],(rbits c).drop 4):=rfl
  rw [e2]
  simp only [le2 hc,decG]
  by_cases q:c%4=0<;>simp [q]
 | a::b::c::d::r,hv,h=>by
  have ha:=hv a (by simp)
  have hb:=hv b (by simp)
  have hc:=hv c (by simp)
  have hd:=hv d (by simp)
  have ih:=z_qS r (fun v hv'=>hv v (by simp [hv'])) (by simp only [List.length_cons] at h;omega)
  have e:((a::b::c::d::r).flatMap rbits)=(rbits a++(rbits b).take 2)++(((rbits b).drop 2++(rbits c).take 4)++(((rbits c).drop 4++rbits d)++r.flatMap rbits)):=by simp [rbits]
  unfold refG at ih ⊢
  rw [e,chop8 _ (by rfl),by1 ha hb,chop8 _ (by rfl),by2 hb hc,chop8 _ (by rfl),by3 hc hd]
  simp only [decG,<-ih]
  by_cases q:(chop (r.flatMap rbits)).2.all (fun x=>decide (x=0))=true
  ·rw [if_pos q,if_pos q];rfl
  ·rw [if_neg q,if_neg q];rfl
def valsA (url:Bool):List UInt8->Option (List Nat)
 | []=>some []
 | c::r=>match valA url c,valsA url r with
  | some v,some vs=>some (v::vs)
  | _,_=>none
def decS (url:Bool) (s:List UInt8):Option (List UInt8):=(valsA url s).bind decG
def unpad (s:List UInt8):List UInt8:=if s.getLast?=some 61 then (if s.dropLast.getLast?=some 61 then s.dropLast.dropLast else s.dropLast) else s
def decP (s:List UInt8):Option (List UInt8):=if s.length%4≠0 then none else if (unpad s).length%4=1 then none else decS false (unpad s)
def decU (s:List UInt8):Option (List UInt8):=if s.length%4=1 then none else decS true s
def digA (c:UInt8):Option Nat:=if 48<=c.toNat/\c.toNat<=57 then some (c.toNat - 48) else if 97<=c.toNat/\c.toNat<=102 then some (c.toNat - 97+10) else none
def unhexA:List UInt8->Option (List UInt8)
 | a::b::r=>match digA a,digA b,unhexA r with
  | some x,some y,some l=>some (u8n (x*16+y)::l)
  | _,_,_=>none
 | [_]=>none
 | []=>some []
def runC (c:UInt8):Bool:=decide (65<=c.toNat/\c.toNat<=90) || (decide (97<=c.toNat/\c.toNat<=122) || (decide (48<=c.toNat/\c.toNat<=57) || (decide (c=43) || (decide (c=47) || (decide (c=45) || decide (c=95))))))
end Go.Proofs.YtloeaiafphkjnaaGreatDoor.Sx
namespace Go.Proofs.YtloeaiafphkjnaaGreatDoor.Sx
open Go
attribute [local irreducible] Calls
def valV (url:Bool) (c:UInt8):Int:=match valA url c with | some v=>(v:Int) | none=> -1
structure Alph (s:ByteArray) (url:Bool):Prop where
 len:s.size=64
 l62:s.data.toList[62]?=some (e62 url)
 l63:s.data.toList[63]?=some (e63 url)
theorem z_uv (w:World) (s:ByteArray) (url:Bool) (c:UInt8) (ha:Alph s url):Pu Tryz.prog z_lz #[.string s,.int .u8 c.toNat] w (.int .i64 (valV url c)):=by
 have g:=z_l7 w (Un [])
 have hc:=c.toNat_lt
 refine z_ad (cx:=z_j5 w (Un [])) g z_oK rfl rfl (β:=Va.z) [.c (.v (.string s)),.c (.v (.int .u8 c.toNat))] 0 [] [] rfl rfl (Sat.start rfl) ?_
 obtain ⟨n,hn⟩: ∃n:Int,(c.toNat:Int)=n:=⟨_,rfl⟩
 have hv:valV url c=if 65<=n/\n<=90 then n - 65 else if 97<=n/\n<=122 then n - 97+26 else if 48<=n/\n<=57 then n - 48+52 else if c=e62 url then 62 else if c=e63 url then 63 else -1:=by
  unfold valV valA
  have e1:(65<=n/\n<=90)=(65<=c.toNat/\c.toNat<=90):=propext (by omega)
  have e2:(97<=n/\n<=122)=(97<=c.toNat/\c.toNat<=122):=propext (by omega)
  have e3:(48<=n/\n<=57)=(48<=c.toNat/\c.toNat<=57):=propext (by omega)
  simp only [e1,e2,e3]
  by_cases h1:65<=c.toNat/\c.toNat<=90
  ·simp only [if_pos h1];omega
  ·simp only [if_neg h1]
   by_cases h2:97<=c.toNat/\c.toNat<=122
   ·simp only [if_pos h2];omega
   ·simp only [if_neg h2]
    by_cases h3:48<=c.toNat/\c.toNat<=57
    ·simp only [if_pos h3];omega
    ·simp only [if_neg h3]
     by_cases h4:c=e62 url
     ·simp only [if_pos h4];rfl
     ·simp only [if_neg h4]
      by_cases h5:c=e63 url
      ·simp only [if_pos h5];rfl
      ·simp only [if_neg h5]
 rw [hn]
 generalize valV url c=v at hv ⊢
 have wr: ∀x:Int,0<=x->x<256->IntKind.u8.wrap x=x:=fun x h1 h2=>by rw [wrap_u8];omega
 by_cases h1:65<=n/\n<=90
 ·rw [if_pos h1] at hv
  refine BIf.dec (fun _=>?_) (fun h=>absurd (show 65<=n by omega) h)
  refine BIf.dec (fun _=>?_) (fun h=>absurd (show n<=90 by omega) h)
  refine ⟨n - 65,by rw [IntKind.wrap_u8];omega,?_⟩
  refine ⟨_,wrap_i64 (by omega) (by omega),?_⟩
  intro β w' hs
  exact hs.fin [] ⟨by rw [hv];rfl,rfl⟩
 rw [if_neg h1] at hv
 by_cases h2:97<=n/\n<=122
 ·rw [if_pos h2] at hv
  refine BIf.dec (fun _=>?_) (fun h=>absurd (show 65<=n by omega) h)
  refine BIf.dec (fun h=>absurd h (show¬(n<=90) by omega)) (fun _=>?_)
  refine BIf.dec (fun _=>?_) (fun h=>absurd (show 97<=n by omega) h)
  refine BIf.dec (fun _=>?_) (fun h=>absurd (show n<=122 by omega) h)
  refine ⟨n - 97,by rw [IntKind.wrap_u8];omega,?_⟩
  refine ⟨_,wrap_i64 (by omega) (by omega),?_⟩
  refine ⟨_,wrap_i64 (by omega) (by omega),?_⟩
  intro β w' hs
  exact hs.fin [] ⟨by rw [hv];rfl,rfl⟩
 rw [if_neg h2] at hv
 by_cases h3:48<=n/\n<=57
 ·rw [if_pos h3] at hv
  refine BIf.dec (fun h=>absurd h (show¬(65<=n) by omega)) (fun _=>?_)
  refine BIf.dec (fun h=>absurd h (show¬(97<=n) by omega)) (fun _=>?_)
  refine BIf.dec (fun _=>?_) (fun h=>absurd (show 48<=n by omega) h)
  refine BIf.dec (fun _=>?_) (fun h=>absurd (show n<=57 by omega) h)
  refine ⟨n - 48,by rw [IntKind.wrap_u8];omega,?_⟩
  refine ⟨_,wrap_i64 (by omega) (by omega),?_⟩
  refine ⟨_,wrap_i64 (by omega) (by omega),?_⟩
  intro β w' hs
  exact hs.fin [] ⟨by rw [hv];rfl,rfl⟩
 rw [if_neg h3] at hv
 by_cases k1:n<48
 ·skip
  refine BIf.dec (fun h=>absurd h (show¬(65<=n) by omega)) (fun _=>?_)
  refine BIf.dec (fun h=>absurd h (show¬(97<=n) by omega)) (fun _=>?_)
  refine BIf.dec (fun h=>absurd h (show¬(48<=n) by omega)) (fun _=>?_)
  refine ⟨62,e62 url,rfl,ha.l62,?_⟩
  refine BIf.dec (fun q=>?_) (fun q=>?_)
  ·have q0:n=((e62 url).toNat:Int):=q
   have qc:c=e62 url:=UInt8.toNat_inj.1 (by omega)
   intro β w' hs
   exact hs.fin [] ⟨by rw [hv,if_pos qc];rfl,rfl⟩
  have q0: ¬n=((e62 url).toNat:Int):=q
  have qc: ¬c=e62 url:=fun e=>q0 (by rw [<-hn,e])
  refine ⟨63,e63 url,rfl,ha.l63,?_⟩
  refine BIf.dec (fun r=>?_) (fun r=>?_)
  ·have r0:n=((e63 url).toNat:Int):=r
   have rc:c=e63 url:=UInt8.toNat_inj.1 (by omega)
   intro β w' hs
   exact hs.fin [] ⟨by rw [hv,if_neg qc,if_pos rc];rfl,rfl⟩
  have r0: ¬n=((e63 url).toNat:Int):=r
  have rc: ¬c=e63 url:=fun e=>r0 (by rw [<-hn,e])
  intro β w' hs
  exact hs.fin [] ⟨by rw [hv,if_neg qc,if_neg rc];rfl,rfl⟩
 by_cases k2:n<65
 ·skip
  refine BIf.dec (fun h=>absurd h (show¬(65<=n) by omega)) (fun _=>?_)
  refine BIf.dec (fun h=>absurd h (show¬(97<=n) by omega)) (fun _=>?_)
  refine BIf.dec (fun _=>?_) (fun h=>absurd (show 48<=n by omega) h)
  refine BIf.dec (fun h=>absurd h (show¬(n<=57) by omega)) (fun _=>?_)
  refine ⟨62,e62 url,rfl,ha.l62,?_⟩
  refine BIf.dec (fun q=>?_) (fun q=>?_)
  ·have q0:n=((e62 url).toNat:Int):=q
   have qc:c=e62 url:=UInt8.toNat_inj.1 (by omega)
   intro β w' hs
   exact hs.fin [] ⟨by rw [hv,if_pos qc];rfl,rfl⟩
  have q0: ¬n=((e62 url).toNat:Int):=q
  have qc: ¬c=e62 url:=fun e=>q0 (by rw [<-hn,e])
  refine ⟨63,e63 url,rfl,ha.l63,?_⟩
  refine BIf.dec (fun r=>?_) (fun r=>?_)
  ·have r0:n=((e63 url).toNat:Int):=r
   have rc:c=e63 url:=UInt8.toNat_inj.1 (by omega)
   intro β w' hs
   exact hs.fin [] ⟨by rw [hv,if_neg qc,if_pos rc];rfl,rfl⟩
  have r0: ¬n=((e63 url).toNat:Int):=r
  have rc: ¬c=e63 url:=fun e=>r0 (by rw [<-hn,e])
  intro β w' hs
  exact hs.fin [] ⟨by rw [hv,if_neg qc,if_neg rc];rfl,rfl⟩
 by_cases k3:n<97
 ·skip
  refine BIf.dec (fun _=>?_) (fun h=>absurd (show 65<=n by omega) h)
  refine BIf.dec (fun h=>absurd h (show¬(n<=90) by omega)) (fun _=>?_)
  refine BIf.dec (fun h=>absurd h (show¬(97<=n) by omega)) (fun _=>?_)
  refine BIf.dec (fun _=>?_) (fun h=>absurd (show 48<=n by omega) h)
  refine BIf.dec (fun h=>absurd h (show¬(n<=57) by omega)) (fun _=>?_)
  refine ⟨62,e62 url,rfl,ha.l62,?_⟩
  refine BIf.dec (fun q=>?_) (fun q=>?_)
  ·have q0:n=((e62 url).toNat:Int):=q
   have qc:c=e62 url:=UInt8.toNat_inj.1 (by omega)
   intro β w' hs
   exact hs.fin [] ⟨by rw [hv,if_pos qc];rfl,rfl⟩
  have q0: ¬n=((e62 url).toNat:Int):=q
  have qc: ¬c=e62 url:=fun e=>q0 (by rw [<-hn,e])
  refine ⟨63,e63 url,rfl,ha.l63,?_⟩
  refine BIf.dec (fun r=>?_) (fun r=>?_)
  ·have r0:n=((e63 url).toNat:Int):=r
   have rc:c=e63 url:=UInt8.toNat_inj.1 (by omega)
   intro β w' hs
   exact hs.fin [] ⟨by rw [hv,if_neg qc,if_pos rc];rfl,rfl⟩
  have r0: ¬n=((e63 url).toNat:Int):=r
  have rc: ¬c=e63 url:=fun e=>r0 (by rw [<-hn,e])
  intro β w' hs
  exact hs.fin [] ⟨by rw [hv,if_neg qc,if_neg rc];rfl,rfl⟩
 ·skip
  refine BIf.dec (fun _=>?_) (fun h=>absurd (show 65<=n by omega) h)
  refine BIf.dec (fun h=>absurd h (show¬(n<=90) by omega)) (fun _=>?_)
  refine BIf.dec (fun _=>?_) (fun h=>absurd (show 97<=n by omega) h)
  refine BIf.dec (fun h=>absurd h (show¬(n<=122) by omega)) (fun _=>?_)
  refine BIf.dec (fun _=>?_) (fun h=>absurd (show 48<=n by omega) h)
  refine BIf.dec (fun h=>absurd h (show¬(n<=57) by omega)) (fun _=>?_)
  refine ⟨62,e62 url,rfl,ha.l62,?_⟩
  refine BIf.dec (fun q=>?_) (fun q=>?_)
  ·have q0:n=((e62 url).toNat:Int):=q
   have qc:c=e62 url:=UInt8.toNat_inj.1 (by omega)
   intro β w' hs
   exact hs.fin [] ⟨by rw [hv,if_pos qc];rfl,rfl⟩
  have q0: ¬n=((e62 url).toNat:Int):=q
  have qc: ¬c=e62 url:=fun e=>q0 (by rw [<-hn,e])
  refine ⟨63,e63 url,rfl,ha.l63,?_⟩
  refine BIf.dec (fun r=>?_) (fun r=>?_)
  ·have r0:n=((e63 url).toNat:Int):=r
   have rc:c=e63 url:=UInt8.toNat_inj.1 (by omega)
   intro β w' hs
   exact hs.fin [] ⟨by rw [hv,if_neg qc,if_pos rc];rfl,rfl⟩
  have r0: ¬n=((e63 url).toNat:Int):=r
  have rc: ¬c=e63 url:=fun e=>r0 (by rw [<-hn,e])
  intro β w' hs
  exact hs.fin [] ⟨by rw [hv,if_neg qc,if_neg rc];rfl,rfl⟩
def piecesA (k:Nat):List UInt8->List (List UInt8)
 | []=>[]
 | c::r=>(c::r).take (k+1)::piecesA k ((c::r).drop (k+1))
termination_by l=>l.length
decreasing_by simp only [List.length_drop,List.length_cons];omega
theorem z_dr (k:Nat):piecesA k []=[]:=by rw [piecesA]
theorem z_gw (k:Nat) {l:List UInt8} (h:l≠[]):piecesA k l=l.take (k+1)::piecesA k (l.drop (k+1)):=by
 cases l with
 | nil=>exact absurd rfl h
 | cons c r=>rw [piecesA]
theorem z_jy (k:Nat): ∀(m:Nat) (l:List UInt8),l.length<=m->(piecesA k l).length<=l.length
 | 0,l,h=>by
  obtain rfl:l=[]:=List.length_eq_zero_iff.1 (by omega)
  rw [z_dr];exact Nat.zero_le _
 | m+1,l,h=>by
  by_cases hl:l=[]
  ·rw [hl,z_dr];exact Nat.zero_le _
  ·have h0:0<l.length:=List.length_pos_iff.2 hl
   rw [z_gw k hl,List.length_cons]
   have:=z_jy k m (l.drop (k+1)) (by rw [List.length_drop];omega)
   rw [List.length_drop] at this
   omega
theorem z_m3 (l:List UInt8) (n:Nat):(mkS l).extract 0 n=mkS (l.take n):=by
 apply ByteArray.ext
 simp [mkS]
theorem z_sL (l:List UInt8) (n:Nat):(mkS l).extract n (mkS l).size=mkS (l.drop n):=by
 apply ByteArray.ext
 simp [mkS,ByteArray.size]
 rw [List.take_of_length_le (by rw [List.length_drop];omega)]
theorem z_hG (l:List UInt8):(mkS l).size=l.length:=by simp [mkS,ByteArray.size]
theorem z_tM (s:ByteArray):mkS s.data.toList=s:=by simp [mkS]
def insS (L:List ByteArray) (pre:List ByteArray) (x:ByteArray) (args:Array Value) (X:Fact):Prop:=args= #[.string x]/\X=noF/\L[pre.length]?=some x
def grpEnd (L:List ByteArray) (J Jx:List ByteArray->Fact->Prop) (Fs:List Fact):Prop:=
 ∃f Fs',Fs=f::Fs'/\((∃xs,J xs f/\xs=L/\Fs'=[])\/(∃pre,Jx pre f/\Fs'=[]))
theorem z_tT (l:Nat) (w:World) (bs bk k:Nat) (s0:List UInt8) (f0 R:Fact) (J Jx:List ByteArray->Fact->Prop) (kk:Int) (hkk:((k+1:Nat):Int)=kk) (hk:k<=1000) (hL:s0.length<=1000000) (hJ0:J [] f0) (hJo: ∀pre f,J pre f->f.own=true) (hRo:R.own=false) (hY:Yc Tryz.prog l J Jx R (insS ((piecesA k s0).map mkS)))
  (hm:Mem w (f0::R::[bkF bs z_ah [.string (mkS s0)],bkF bk z_ge [.int .i64 kk]])):
  Con Tryz.prog z_ey #[.func (.yield l) #[] #[],.pointer (some ⟨bs,0,none⟩),.pointer (some ⟨bk,0,none⟩)] w [f0,bkF bs z_ah [.string (mkS s0)],bkF bk z_ge [.int .i64 kk]] (fun _ Fs=>grpEnd ((piecesA k s0).map mkS) J Jx Fs):=by
 have g:=z_jC w (Un [f0,bkF bs z_ah [.string (mkS s0)],bkF bk z_ge [.int .i64 kk]]) [bs,bk]
 have hs0:Sat (z_dA w (Un [f0,bkF bs z_ah [.string (mkS s0)],bkF bk z_ge [.int .i64 kk]]) [bs,bk]) (Va.of fun i=>[bs,bk].getD i 0) 2 [] (f0::R::[bkF bs z_ah [.string (mkS s0)],bkF bk z_ge [.int .i64 kk]]) w:=by
  refine hm.sat rfl (fun f hf ho k hk=>?_) ⟨Nat.le_refl 2,fun i _=>rfl⟩
  simp only [List.mem_cons,List.not_mem_nil,or_false] at hf
  rcases hf with rfl | rfl | rfl | rfl
  ·exact ⟨_,by simp,hk⟩
  ·rw [hRo] at ho;cases ho
  ·exact ⟨bkF bs z_ah [.string (mkS s0)],by simp,hk⟩
  ·exact ⟨_,by simp,hk⟩
 have hs1:=(hs0.toBk 3 rfl 1 (by decide) rfl).toBk 2 rfl 0 (by decide) rfl
 refine z_ad (cx:=z_dA w (Un [f0,bkF bs z_ah [.string (mkS s0)],bkF bk z_ge [.int .i64 kk]]) [bs,bk]) g z_lW rfl rfl (β:=Va.of fun i=>[bs,bk].getD i 0) [.c (.v (.func (.yield l) #[] #[])),.c (.p 0 0),.c (.p 1 0)] 2 _ _ rfl rfl hs1 ?_
 obtain ⟨L,hLd⟩: ∃L,(piecesA k s0).map mkS=L:=⟨_,rfl⟩
 rw [hLd] at hY ⊢
 refine z_ai (ι:=List UInt8×List ByteArray×Fact) 2 (fun i=>[(0,.c (.v (.func (.yield l) #[] #[]))),(1,.c (.p 0 0)),(2,.c (.p 1 0))]) (fun i=>[⟨0,z_ah,[.v (.string (mkS i.1))]⟩,⟨1,z_ge,[.v (.int .i64 kk)]⟩]) (fun i=>[i.2.2,R])
  (fun i=>J i.2.1 i.2.2/\L=i.2.1++(piecesA k i.1).map mkS/\i.1.length<=1000000) (fun i=>i.1.length) (s0,[],f0) ⟨hJ0,hLd.symm,hL⟩ (Ent.mk' ⟨rfl,rfl,rfl,trivial⟩ rfl (fun β w' hs=>hs)) g ?_
 rintro ⟨r,pre,f⟩ ⟨hJ,hpre,hrl⟩
 simp only at hJ hpre hrl
 have hfo:=hJo _ _ hJ
 simp only
 have hsz:=z_hG r
 obtain ⟨z,hz⟩: ∃z:Int,((mkS r).size:Int)=z:=⟨_,rfl⟩
 by_cases hr:r=[]
 ·subst hr
  rw [z_dr,List.map_nil,List.append_nil] at hpre
  intro β w' hs
  exact (hs.keepB (List.nil_sublist _)).fin [0] ⟨f,_,rfl,.inl ⟨pre,hJ,hpre.symm,rfl⟩⟩ rfl rfl rfl ⟨hfo,trivial⟩
 have hr0:0<r.length:=List.length_pos_iff.2 hr
 refine BIf.dec (fun _=>?_) (fun h=>absurd (show (0:Int)<((mkS r).size:Int) by omega) h)
 refine BIf.dec (fun _=>?_) (fun h=>absurd (show (0:Int)<kk by omega) h)
 obtain ⟨m,hm⟩: ∃m:Nat,m=min r.length (k+1):=⟨_,rfl⟩
 have hmt:r.take m=r.take (k+1):=by
  rcases Nat.le_total r.length (k+1) with h | h
  ·rw [hm,Nat.min_eq_left h,List.take_length,List.take_of_length_le h]
  ·rw [hm,Nat.min_eq_right h]
 have hmd:r.drop m=r.drop (k+1):=by
  rcases Nat.le_total r.length (k+1) with h | h
  ·rw [hm,Nat.min_eq_left h,List.drop_length,List.drop_of_length_le h]
  ·rw [hm,Nat.min_eq_right h]
 refine ⟨(m:Int),by show min _ _=_;omega,?_⟩
 refine ⟨m,0,rfl,rfl,by omega,Nat.zero_le _,?_⟩
 have hx:(mkS r).extract 0 m=mkS (r.take (k+1)):=by rw [z_m3,hmt]
 have hd:(mkS r).extract m (mkS r).size=mkS (r.drop (k+1)):=by rw [z_sL,hmd]
 have hLx:L[pre.length]?=some (mkS (r.take (k+1))):=by
  rw [hpre,z_gw k hr,List.map_cons,List.getElem?_append_right (Nat.le_refl _),Nat.sub_self]
  rfl
 refine z_bq (X:=noF) (x:=mkS (r.take (k+1))) hY 0 1 rfl hJ hfo rfl hRo (by decide) (fun β=>⟨by rw [<-hx];rfl,rfl,hLx⟩) rfl (fun β w _=>⟨trivial,fun k hk=>hk.elim,fun k _ h=>h.elim⟩) ?_ ?_
 ·intro f2 hfo2 hJ2
  refine ⟨(mkS r).size,m,rfl,rfl,Nat.le_refl _,by omega,?_⟩
  refine ⟨(r.drop (k+1),pre++[mkS (r.take (k+1))],f2),⟨hJ2,?_,by show (r.drop (k+1)).length<=_;rw [List.length_drop];omega⟩,by show (r.drop (k+1)).length<r.length;rw [List.length_drop];omega,?_⟩
  ·show L=(pre++[mkS (r.take (k+1))])++(piecesA k (r.drop (k+1))).map mkS
   rw [hpre,z_gw k hr,List.map_cons,List.append_assoc]
   rfl
  ·simp only [<-hd]
   exact Ent.same ⟨rfl,rfl,rfl,trivial⟩ rfl
 ·intro f2 hfo2 hJ2 β w' hs
  exact (hs.keepB (List.nil_sublist _)).fin [0] ⟨f2,_,rfl,.inr ⟨_,hJ2,rfl⟩⟩ rfl rfl rfl ⟨hfo2,trivial⟩
theorem z_py (w:World) (s:ByteArray) (kk:Int):Con Tryz.prog z_kc #[.string s,.int .i64 kk] w [] (fun v Fs=> ∃bs bk,v= .func (.func z_ey) #[] #[.pointer (some ⟨bs,0,none⟩),.pointer (some ⟨bk,0,none⟩)]/\Fs=[bkF bs z_ah [.string s],bkF bk z_ge [.int .i64 kk]]):=by
 refine z_ad (cx:=z_iB w (Un [])) (z_kH w (Un [])) z_nX rfl rfl (β:=Va.z) [.c (.v (.string s)),.c (.v (.int .i64 kk))] 0 [] [] rfl rfl (Sat.start rfl) ?_
 intro β w' hs
 exact hs.ofBk.ofBk.fin [0,1] ⟨β 0,β 1,rfl,rfl⟩
theorem z_ik (url:Bool): ∀(a b:List UInt8),valsA url (a++b)=match valsA url a,valsA url b with | some x,some y=>some (x++y) | _,_=>none
 | [],b=>by simp only [List.nil_append,valsA];cases valsA url b<;>rfl
 | c::r,b=>by
  rw [List.cons_append]
  simp only [valsA,z_ik url r b]
  cases valA url c<;>cases valsA url r<;>cases valsA url b<;>rfl
theorem z_dD {url:Bool}: ∀ {l:List UInt8} {vs:List Nat},valsA url l=some vs->vs.length=l.length/\ ∀v∈vs,v<64
 | [],vs,h=>by
  obtain rfl:=Option.some.inj h
  exact ⟨rfl,fun v hv=>by cases hv⟩
 | c::r,vs,h=>by
  simp only [valsA] at h
  cases hc:valA url c with
  | none=>rw [hc] at h;cases h
  | some v=>
   cases hr:valsA url r with
   | none=>rw [hc,hr] at h;cases h
   | some ws=>
    rw [hc,hr] at h
    obtain rfl:=Option.some.inj h
    obtain ⟨h1,h2⟩:=z_dD hr
    refine ⟨by simp [h1],fun x hx=>?_⟩
    rcases List.mem_cons.1 hx with rfl | hx
    ·exact z_or hc
    ·exact h2 x hx
theorem z_o3: ∀(vs ws:List Nat),vs.length%4=0-> ∃l,decG vs=some l/\decG (vs++ws)=(decG ws).map (l++ ·)
 | [],ws,_=>⟨[],rfl,by rw [List.nil_append];cases decG ws<;>rfl⟩
 | [_],_,h=>by simp at h
 | [_,_],_,h=>by simp at h
 | [_,_,_],_,h=>by simp at h
 | a::b::c::d::r,ws,h=>by
  obtain ⟨l,h1,h2⟩:=z_o3 r ws (by simp only [List.length_cons] at h;omega)
  refine ⟨_,by simp only [decG,h1];rfl,?_⟩
  simp only [List.cons_append,decG,h2]
  cases decG ws<;>simp
def vfold (vs:List Nat):Nat:=vs.foldl (fun n v=>n*64+v) 0
def bytesN (N n:Nat):List UInt8:=(List.range n).map fun i=>u8n (N/256^(2 - i))
theorem grp2 {a b:Nat} (ha:a<64) (hb:b<64):decG [a,b]=if (vfold [a,b]*4096)%65536=0 then some (bytesN (vfold [a,b]*4096) 1) else none:=by
 have e:vfold [a,b]=a*64+b:=by simp [vfold]
 rw [e]
 have e2:bytesN ((a*64+b)*4096) 1=[u8n (a*4+b/16)]:=by
  show [u8n ((a*64+b)*4096/65536)]=_
  congr 2
  omega
 rw [e2]
 simp only [decG]
 by_cases h:b%16=0
 ·rw [if_pos h,if_pos (by omega)]
 ·rw [if_neg h,if_neg (by omega)]
theorem z_lN {x y:Nat} (h:x%256=y%256):u8n x=u8n y:=by
 unfold u8n
 apply UInt8.toNat_inj.1
 rw [UInt8.toNat_ofNat',UInt8.toNat_ofNat']
 exact h
theorem grp3 {a b c:Nat} (ha:a<64) (hb:b<64) (hc:c<64):decG [a,b,c]=if (vfold [a,b,c]*64)%256=0 then some (bytesN (vfold [a,b,c]*64) 2) else none:=by
 have e:vfold [a,b,c]=(a*64+b)*64+c:=by simp [vfold]
 rw [e]
 have e2:bytesN (((a*64+b)*64+c)*64) 2=[u8n (a*4+b/16),u8n (b%16*16+c/4)]:=by
  show [u8n (((a*64+b)*64+c)*64/65536),u8n (((a*64+b)*64+c)*64/256)]=_
  rw [z_lN (x:=((a*64+b)*64+c)*64/65536) (y:=a*4+b/16) (by omega),z_lN (x:=((a*64+b)*64+c)*64/256) (y:=b%16*16+c/4) (by omega)]
 rw [e2]
 simp only [decG]
 by_cases h:c%4=0
 ·rw [if_pos h,if_pos (by omega)]
 ·rw [if_neg h,if_neg (by omega)]
theorem grp4 {a b c d:Nat} (ha:a<64) (hb:b<64) (hc:c<64) (hd:d<64):decG [a,b,c,d]=some (bytesN (vfold [a,b,c,d]) 3):=by
 have e:vfold [a,b,c,d]=((a*64+b)*64+c)*64+d:=by simp [vfold]
 rw [e]
 have e2:bytesN (((a*64+b)*64+c)*64+d) 3=[u8n (a*4+b/16),u8n (b%16*16+c/4),u8n (c%4*64+d)]:=by
  show [u8n ((((a*64+b)*64+c)*64+d)/65536),u8n ((((a*64+b)*64+c)*64+d)/256),u8n ((((a*64+b)*64+c)*64+d)/1)]=_
  rw [z_lN (x:=(((a*64+b)*64+c)*64+d)/65536) (y:=a*4+b/16) (by omega),z_lN (x:=(((a*64+b)*64+c)*64+d)/256) (y:=b%16*16+c/4) (by omega),z_lN (x:=(((a*64+b)*64+c)*64+d)/1) (y:=c%4*64+d) (by omega)]
 rw [e2]
 simp [decG]
theorem z_kT (k:Nat): ∀(j:Nat) (l:List UInt8) (x:List UInt8),(piecesA k l)[j]?=some x->x=(l.drop ((k+1)*j)).take (k+1)/\(k+1)*j<l.length/\((piecesA k l).take j).flatten=l.take ((k+1)*j)
 | j,l,x,h=>by
  by_cases hl:l=[]
  ·rw [hl,z_dr] at h;simp at h
  ·have h0:0<l.length:=List.length_pos_iff.2 hl
   rw [z_gw k hl] at h ⊢
   cases j with
   | zero=>
    obtain rfl:l.take (k+1)=x:=by simpa using h
    exact ⟨by simp,by simpa using h0,by simp⟩
   | succ j=>
    have h':(piecesA k (l.drop (k+1)))[j]?=some x:=by simpa using h
    obtain ⟨h1,h2,h3⟩:=z_kT k j (l.drop (k+1)) x h'
    rw [List.length_drop] at h2
    refine ⟨?_,by rw [Nat.mul_succ];omega,?_⟩
    ·rw [h1,List.drop_drop,Nat.mul_succ,Nat.add_comm (k+1)]
    ·rw [List.take_succ_cons,List.flatten_cons,h3,Nat.mul_succ,Nat.add_comm ((k+1)*j) (k+1)]
     exact List.take_add.symm
theorem z_hS (k:Nat): ∀(m:Nat) (l:List UInt8),l.length<=m->(piecesA k l).flatten=l
 | 0,l,h=>by
  obtain rfl:l=[]:=List.length_eq_zero_iff.1 (by omega)
  rw [z_dr];rfl
 | m+1,l,h=>by
  by_cases hl:l=[]
  ·rw [hl,z_dr];rfl
  ·have h0:0<l.length:=List.length_pos_iff.2 hl
   rw [z_gw k hl,List.flatten_cons,z_hS k m _ (by rw [List.length_drop];omega),List.take_append_drop]
theorem z_ud {x y:Nat} (hx:x<33554432) (hy:y<64):bits .or .i64 ((x*64:Nat):Int) (y:Int)=((x*64+y:Nat):Int):=by
 show IntKind.i64.wrap (((BitVec.ofInt 64 ((x*64:Nat):Int)) ||| (BitVec.ofInt 64 (y:Int))).toNat:Int)=_
 have h1:(BitVec.ofInt 64 ((x*64:Nat):Int)).toNat=x<<<6:=by
  rw [BitVec.toNat_ofInt,Nat.shiftLeft_eq]
  omega
 have h2:(BitVec.ofInt 64 (y:Int)).toNat=y:=by
  rw [BitVec.toNat_ofInt]
  omega
 rw [BitVec.toNat_or,h1,h2,<-Nat.shiftLeft_add_eq_or_of_lt (by omega) x,Nat.shiftLeft_eq,wrap_i64 (by omega) (by omega)]
theorem z_oE {x k:Nat} (hx:x<33554432) (hk:k<=20):bits .and .i64 (x:Int) ((2^k - 1:Nat):Int)=((x%2^k:Nat):Int):=by
 show IntKind.i64.wrap (((BitVec.ofInt 64 (x:Int))&&&(BitVec.ofInt 64 ((2^k - 1:Nat):Int))).toNat:Int)=_
 have hp:2^k<=2^20:=Nat.pow_le_pow_right (by decide) hk
 have h1:(BitVec.ofInt 64 (x:Int)).toNat=x:=by
  rw [BitVec.toNat_ofInt]
  omega
 have h2:(BitVec.ofInt 64 ((2^k - 1:Nat):Int)).toNat=2^k - 1:=by
  rw [BitVec.toNat_ofInt]
  omega
 have h3:=Nat.mod_lt x (show 0<2^k from Nat.pos_of_ne_zero (by simp))
 rw [BitVec.toNat_and,h1,h2,Nat.and_two_pow_sub_one_eq_mod,wrap_i64 (by omega) (by omega)]
theorem z_vP {url:Bool} {n:Nat} (h:n<26):letA url n=UInt8.ofNat (65+n):=by unfold letA;rw [if_pos h]
theorem z_vL {url:Bool} {n:Nat} (h1: ¬n<26) (h:n<52):letA url n=UInt8.ofNat (97+n - 26):=by unfold letA;rw [if_neg h1,if_pos h]
theorem z_vl {url:Bool} {n:Nat} (h1: ¬n<26) (h2: ¬n<52) (h:n<62):letA url n=UInt8.ofNat (48+n - 52):=by unfold letA;rw [if_neg h1,if_neg h2,if_pos h]
theorem z_oD {k:Nat} (h:k<256):Value.int .u8 ((k:Nat):Int)=byte (UInt8.ofNat k):=by
 unfold byte
 congr 2
 rw [UInt8.toNat_ofNat']
 omega
theorem z_pE (w:World) (n:Nat) (url:Bool) (hn:n<64):Pu Tryz.prog z_cC #[.int .i64 (n:Int),.bool url] w (byte (letA url n)):=by
 have g:=z_eW w (Un [])
 refine z_ad (cx:=z_cf w (Un [])) g z_gp rfl rfl (β:=Va.z) [.c (.v (.int .i64 (n:Int))),.c (.v (.bool url))] 0 [] [] rfl rfl (Sat.start rfl) ?_
 refine BIf.dec (fun h1=>?_) (fun h1=>?_)
 ·have h10:(n:Int)<26:=h1
  rw [z_vP (by omega)]
  refine ⟨(((65+n):Nat):Int),by rw [wrap_i64 (by omega) (by omega)];rfl,?_⟩
  refine ⟨((65+n:Nat):Int),by rw [IntKind.wrap_u8];omega,?_⟩
  intro β w' hs
  exact hs.fin [] ⟨z_oD (by omega),rfl⟩
 have h10: ¬(n:Int)<26:=h1
 refine BIf.dec (fun h2=>?_) (fun h2=>?_)
 ·have h20:(n:Int)<52:=h2
  rw [z_vL (by omega) (by omega)]
  refine ⟨(((97+n):Nat):Int),by rw [wrap_i64 (by omega) (by omega)];rfl,?_⟩
  refine ⟨(((97+n - 26):Nat):Int),by rw [wrap_i64 (by omega) (by omega)];omega,?_⟩
  refine ⟨((97+n - 26:Nat):Int),by rw [IntKind.wrap_u8];omega,?_⟩
  intro β w' hs
  exact hs.fin [] ⟨z_oD (by omega),rfl⟩
 have h20: ¬(n:Int)<52:=h2
 refine BIf.dec (fun h3=>?_) (fun h3=>?_)
 ·have h30:(n:Int)<62:=h3
  rw [z_vl (by omega) (by omega) (by omega)]
  refine ⟨(((48+n):Nat):Int),by rw [wrap_i64 (by omega) (by omega)];rfl,?_⟩
  refine ⟨(((48+n - 52):Nat):Int),by rw [wrap_i64 (by omega) (by omega)];omega,?_⟩
  refine ⟨((48+n - 52:Nat):Int),by rw [IntKind.wrap_u8];omega,?_⟩
  intro β w' hs
  exact hs.fin [] ⟨z_oD (by omega),rfl⟩
 have h30: ¬(n:Int)<62:=h3
 refine BIf.dec (fun h4=>?_) (fun h4=>?_)
 ·have h40:(n:Int)=62:=h4
  obtain rfl:n=62:=by omega
  cases url with
  | true=>
   intro β w' hs
   exact hs.fin [] ⟨by rfl,rfl⟩
  | false=>
   intro β w' hs
   exact hs.fin [] ⟨by rfl,rfl⟩
 ·have h40: ¬(n:Int)=62:=h4
  obtain rfl:n=63:=by omega
  cases url with
  | true=>
   intro β w' hs
   exact hs.fin [] ⟨by rfl,rfl⟩
  | false=>
   intro β w' hs
   exact hs.fin [] ⟨by rfl,rfl⟩
theorem z_uz {url:Bool} {c:UInt8} {i:Nat} (h:i<64) (hno: ∀k,k<i->letA url k≠c) (hi:letA url i=c):valA url c=some i:=by
 rw [z_rw,List.find?_range_eq_some]
 exact ⟨by simpa using hi,List.mem_range.2 h,fun j hj=>by simpa using hno j hj⟩
theorem z_uL {url:Bool} {c:UInt8} (hno: ∀k,k<64->letA url k≠c):valA url c=none:=by
 rw [z_rw,List.find?_eq_none]
 intro k hk
 simpa using hno k (List.mem_range.1 hk)
theorem z_r8 (w:World) (c:UInt8) (url:Bool):Pu Tryz.prog z_cF #[byte c,.bool url] w (.int .i64 (valV url c)):=by
 have g:=z_eJ w (Un [])
 refine z_ad (cx:=z_cc w (Un [])) g z_gr rfl rfl (β:=Va.z) [.c (.v (byte c)),.c (.v (.bool url))] 0 [] [] rfl rfl (Sat.start rfl) ?_
 refine z_ai (ι:=Nat) 0 (fun j=>[(0,.c (.v (byte c))),(1,.c (.v (.bool url))),(5,.c (.v (.int .i64 (j:Int))))]) (fun _=>[]) (fun _=>[])
  (fun j=>j<=64/\ ∀k,k<j->letA url k≠c) (fun j=>64 - j) (0:Nat) ⟨Nat.zero_le _,fun k hk=>absurd hk (Nat.not_lt_zero _)⟩ (Ent.mk' ⟨rfl,rfl,rfl,trivial⟩ rfl (fun β w' hs=>hs)) g ?_
 rintro j ⟨hj,hno⟩
 refine BIf.dec (fun hlt=>?_) (fun hge=>?_)
 ·have hlt0:(j:Int)<64:=hlt
  refine z_af (fun β w' hs=>z_pE w' j url (by omega)) ?_
  refine BIf.dec (fun he=>?_) (fun hne=>?_)
  ·have he0:letA url j=c:=UInt8.toNat_inj.1 (Int.ofNat_inj.1 he)
   intro β w' hs
   refine hs.fin [] ⟨?_,rfl⟩
   unfold valV
   rw [z_uz (by omega) hno he0]
   rfl
  ·have hne0:letA url j≠c:=fun q=>hne (by rw [q])
   refine ⟨((j+1:Nat):Int),by rw [wrap_i64 (by omega) (by omega)];rfl,?_⟩
   exact ⟨j+1,⟨by omega,fun k hk=>by
    rcases Nat.lt_or_ge k j with q | q
    ·exact hno k q
    ·obtain rfl:k=j:=by omega
     exact hne0⟩,by omega,Ent.mk' ⟨rfl,rfl,rfl,trivial⟩ rfl (fun β w' hs=>hs)⟩
 ·have hge0: ¬(j:Int)<64:=hge
  obtain rfl:j=64:=by omega
  intro β w' hs
  refine hs.fin [] ⟨?_,rfl⟩
  unfold valV
  rw [z_uL hno]
  rfl
theorem z_jp {url:Bool} {c:UInt8} (hc:valA url c=none): ∀ {l:List UInt8},c∈l->valsA url l=none
 | x::r,h=>by
  simp only [valsA]
  rcases List.mem_cons.1 h with rfl | h
  ·rw [hc]
  ·rw [z_jp hc h]
   cases valA url x<;>rfl
theorem z_mz (ws:List Nat) (v:Nat):vfold (ws++[v])=vfold ws*64+v:=by simp [vfold]
theorem z_nf: ∀(k:Nat) (ws:List Nat),ws.length=k->(∀v∈ws,v<64)->vfold ws<64^k
 | 0,ws,h,_=>by
  obtain rfl:=List.eq_nil_of_length_eq_zero h
  decide
 | k+1,ws,h,hv=>by
  have hne:ws≠[]:=fun e=>by rw [e] at h;cases h
  obtain ⟨us,v,rfl⟩: ∃us v,ws=us++[v]:=⟨ws.dropLast,ws.getLast hne,(List.dropLast_concat_getLast hne).symm⟩
  have h1:=z_nf k us (by rw [List.length_append] at h;simpa using h) (fun x hx=>hv x (List.mem_append_left _ hx))
  have h2:=hv v (by simp)
  rw [z_mz,Nat.pow_succ]
  omega
theorem grpZ {ws:List Nat} (h2:2<=ws.length) (h4:ws.length<=4) (hw: ∀v∈ws,v<64):decG ws=if (vfold ws*2^(6*(4 - ws.length)))%2^(8*(4 - ws.length))=0 then some (bytesN (vfold ws*2^(6*(4 - ws.length))) (ws.length - 1)) else none:=by
 match ws,h2,h4,hw with
 | [a,b],_,_,hw=>exact grp2 (hw a (by simp)) (hw b (by simp))
 | [a,b,c],_,_,hw=>exact grp3 (hw a (by simp)) (hw b (by simp)) (hw c (by simp))
 | [a,b,c,d],_,_,hw=>
  have h:=grp4 (hw a (by simp)) (hw b (by simp)) (hw c (by simp)) (hw d (by simp))
  rw [h]
  show _=if (vfold [a,b,c,d]*1)%1=0 then some (bytesN (vfold [a,b,c,d]*1) 3) else none
  rw [Nat.mul_one,if_pos (Nat.mod_one _)]
 | _::_::_::_::_::_,_,h4,_=>simp at h4
structure DcS where
 out:List UInt8
 A:Option Addr
 c:Nat
 e:Int
structure DcS.Ok (i:DcS) (url:Bool) (L:List ByteArray) (pre:List ByteArray):Prop where
 eq:pre=L.take pre.length
 vs: ∃vs,valsA url (pre.map (·.data.toList)).flatten=some vs/\((i.e=0/\decG vs=some i.out)\/(i.e=4/\decG vs=none))
 len:i.out.length<=3*pre.length
def decOut (url:Bool) (s:List UInt8) (v:Value) (Fs:List Fact):Prop:= ∃A l c e,v= .tuple #[.slice A l.length c,.int .i64 e]/\((e=0/\decS url s=some l)\/(e≠0/\decS url s=none))/\l.length<=c/\Fs=[browF z_ab A l c]
theorem z_gZ {e:Nat} {c:Nat} {A:Option Addr} {l:List UInt8} {w:World} (h:(browF e A l c).p w):l.length<=c:=by
 rcases h.2 with ⟨_,h0⟩ | ⟨g,cap,cur,he,_,_,hnc,_⟩
 ·omega
 ·injection he with _ _ h3
  omega
theorem z_h3 (N n:Nat):bytesN N (n+1)=bytesN N n++[u8n (N/256^(2 - n))]:=by
 unfold bytesN
 rw [List.range_succ,List.map_append]
 rfl
theorem z_jz (N n:Nat):(bytesN N n).length=n:=by simp [bytesN]
theorem z_oF {X k:Nat} (hk:k<=2):((X:Int)).fdiv (2^min (8*(2 - (k:Int))).toNat IntKind.i64.bits)=((X/256^(2 - k):Nat):Int):=by
 rw [show (8*(2 - (k:Int))).toNat=8*(2 - k) by omega,show min (8*(2 - k)) IntKind.i64.bits=8*(2 - k) from Nat.min_eq_left (by show _<=64;omega),show ((2:Int)^(8*(2 - k)))=((256^(2 - k):Nat):Int) by rw [show (256:Nat)=2^8 from rfl,<-Nat.pow_mul];simp]
 rw [Int.fdiv_eq_ediv_of_nonneg _ (Int.natCast_nonneg _)]
 rfl
set_option maxHeartbeats 1000000 in
theorem z_sS (w:World) (al s:ByteArray) (url:Bool) (ha:Alph al url) (hL:s.size<=1000000) (hs1:s.size%4≠1):Con Tryz.prog z_jO #[.string al,.string s] w [] (decOut url s.data.toList):=by
 have g:=z_k8 w (Un [])
 have hml:=z_ag
 refine z_ad (cx:=z_ip w (Un [])) g z_n7 rfl rfl (β:=Va.z) [.c (.v (.string al)),.c (.v (.string s))] 0 [] [] rfl rfl (Sat.start rfl) ?_
 refine z_ac [] (fun β w' hs=>z_py w' s 4) ?_
 rintro v Fs ⟨bs,bk,rfl,rfl⟩
 obtain ⟨s0,hs0⟩: ∃s0,s.data.toList=s0:=⟨_,rfl⟩
 have hss:s=mkS s0:=by rw [<-hs0,z_tM]
 have hsl:s0.length=s.size:=by rw [hss,z_hG]
 rw [hss] at hs1
 rw [z_hG] at hs1
 rw [hs0]
 obtain ⟨L,hLd⟩: ∃L,(piecesA 3 s0).map mkS=L:=⟨_,rfl⟩
 have hLL:L.length<=1000000:=by
  have h:=z_jy 3 _ s0 (Nat.le_refl _)
  rw [<-hLd,List.length_map]
  omega
 refine z_aB (α:=ByteArray) (ι:=DcS) (κ:=Unit) g rfl (cv:=[.pointer (some ⟨bs,0,none⟩),.pointer (some ⟨bk,0,none⟩)]) rfl (by kernel_rfl) 3 (Nat.le_refl 3)
  (fun pre i=>i.Ok url L pre) (fun i=>[⟨2,z_as,[.v (.int .i64 i.e)]⟩,⟨1,z_al,[.v (.slice i.A i.out.length i.c)]⟩,⟨0,z_ah,[.v (.string al)]⟩]) (fun i=>[browF z_ab i.A i.out i.c]) (fun i=>⟨rfl,trivial⟩)
  (fun e pre _=>e= .exit 0/\decS url s0=none) (fun _=>[⟨2,z_as,[.v (.int .i64 5)]⟩]) (fun _=>[]) (fun _=>trivial)
  [bkF bs z_ah [.string s],bkF bk z_ge [.int .i64 4]] [] [] ⟨rfl,rfl,trivial⟩ (fun g h=>by cases h) ⟨[],none,0,0⟩ ⟨rfl,⟨[],rfl,.inl ⟨rfl,rfl⟩⟩,Nat.le_refl _⟩
  (fun β w hs=>⟨β,Agr.refl _ _,(hs.nilRow z_ab 1).perm [1,2,0]⟩) (insS L)
  (fun xs Fs'=>xs=L/\Fs'=[]) (fun _ Fs'=>Fs'=[])
  (fun l w f0 R J Jx hJ0 hJo hRo hY hm=>by
   rw [hss] at hm
   have h:=z_tT l w bs bk 3 s0 f0 R J Jx 4 rfl (by decide) (by omega) hJ0 hJo hRo (by rw [hLd];exact hY) hm
   rw [hLd,<-hss] at h
   exact h) ?_ ?_ ?_
 ·rintro ⟨out,A,c,e⟩ pre x args X W S' lb bs' pn pn' hbs hok ⟨rfl,rfl,hx⟩
  obtain ⟨cs,hcs,rfl⟩: ∃cs,(piecesA 3 s0)[pre.length]?=some cs/\x=mkS cs:=by
   rw [<-hLd,List.getElem?_map] at hx
   obtain ⟨cs,h1,h2⟩:=Option.map_eq_some_iff.1 hx
   exact ⟨cs,h1,h2.symm⟩
  obtain ⟨p1,p2,p3⟩:=z_kT 3 _ _ _ hcs
  have hpf:(pre.map (·.data.toList)).flatten=s0.take (4*pre.length):=by
   conv=>lhs;rw [hok.eq]
   rw [<-hLd,<-List.map_take,List.map_map,show ((fun b:ByteArray=>b.data.toList)∘mkS)=id from funext fun l=>by simp [mkS],List.map_id]
   have h:=p3
   rw [show pre.length=pre.length from rfl] at h
   exact h
  obtain ⟨vs,hv1,hv2⟩:=hok.vs
  rw [hpf] at hv1
  have hvl:=z_dD hv1
  have hv4:vs.length%4=0:=by rw [hvl.1,List.length_take];omega
  have hcl:cs.length=min 4 (s0.length - 4*pre.length):=by rw [p1,List.length_take,List.length_drop]
  have hnext:(pre.map (·.data.toList)++[cs]).flatten=s0.take (4*pre.length)++cs:=by rw [List.flatten_append,hpf];simp
  have hdm:(mkS cs).data.toList=cs:=by simp [mkS]
  have hcz:=z_hG cs
  refine ⟨_,rfl,?_⟩
  have hc4:cs.length<=4:=by omega
  have hc2:2<=cs.length:=by omega
  intro b1
  intro b2
  intro q1
  intro q2
  refine z_ai (ι:=Nat×Nat) 3 (fun j=>[(2,.c (.p 0 0)),(6,.c (.p 1 0)),(7,.c (.p 2 0)),(8,.c (.v (.string (mkS cs)))),(9,.c (.v (.int .i64 (j.2:Int)))),(19,.c (.v (.slice (some ⟨b1,0,none⟩) (mkS cs).size b2))),(20,.c (.v (.int .i64 ((mkS cs).size:Int)))),(21,.c (.v (.int .i64 (j.1:Int))))])
   (fun _=>[⟨2,z_as,[.v (.int .i64 e)]⟩,⟨1,z_al,[.v (.slice A out.length c)]⟩,⟨0,z_ah,[.v (.string al)]⟩]) (fun _=>[rdoF 1 (some ⟨b1,0,none⟩) (mkS cs).size ((mkS cs).data.toList.map byte),browF z_ab A out c])
   (fun j=>j.1<=cs.length/\ ∃ws,valsA url (cs.take j.1)=some ws/\j.2=vfold ws) (fun j=>cs.length - j.1) (0,0) ⟨Nat.zero_le _,[],rfl,rfl⟩ (Ent.mk' ⟨rfl,rfl,rfl,rfl,rfl,rfl,rfl,rfl,trivial⟩ rfl (fun β w' hs=>hs.perm [0,2])) (z_bs g) ?_
  rintro ⟨j,N⟩ ⟨hj,ws,hws,hN⟩
  simp only at hj hws hN
  have hwl:=z_dD hws
  have hNl:N<16777216:=by
   have h:=z_nf _ ws rfl hwl.2
   rw [<-hN,hwl.1,List.length_take] at h
   exact Nat.lt_of_lt_of_le h (Nat.le_trans (Nat.pow_le_pow_right (by decide) (show min j cs.length<=4 by omega)) (by decide))
  refine BIf.dec (fun hlt=>?_) (fun hge=>?_)
  ·have hlt0:(j:Int)<((mkS cs).size:Int):=hlt
   obtain ⟨y,hy,hym⟩:=at_lt (show j<cs.length by omega)
   have htk:cs.take (j+1)=cs.take j++[y]:=by rw [List.take_add_one,hy];rfl
   refine ⟨_,j,rfl,rfl,by omega,?_⟩
   refine ⟨byte y,fun β w' hs=>Rd.cell1 (show Rd 1 (some ⟨b1,0,none⟩) (mkS cs).size ((mkS cs).data.toList.map byte) w' from hs.get 0 rfl) (by rw [hdm,List.getElem?_map,hy];rfl),?_⟩
   have hval:=fun w'=>z_uv w' al url y ha
   unfold valV at hval
   cases hvy:valA url y with
   | none=>
    rw [hvy] at hval
    refine z_af (v:= .int .i64 (-1)) (fun β w' hs=>hval w') ?_
    refine ⟨(),⟨rfl,?_⟩,Ent.mk' trivial rfl (fun β w hs=>((hs.keepB (List.Sublist.cons_cons _ (List.nil_sublist _))).perm []).lower)⟩
    have hym0:y∈s0:=by
     rw [p1] at hym
     exact List.mem_of_mem_drop (List.mem_of_mem_take hym)
    unfold decS
    rw [z_jp hvy hym0]
    rfl
   | some v=>
    rw [hvy] at hval
    have hv64:=z_or hvy
    refine z_af (v:= .int .i64 (v:Int)) (fun β w' hs=>hval w') ?_
    refine ⟨by decide,((N*64:Nat):Int),?_,?_⟩
    ·rw [show min (6:Int).toNat IntKind.i64.bits=6 from rfl,wrap_i64 (by omega) (by omega)];omega
    refine ⟨((N*64+v:Nat):Int),z_ud (by omega) hv64,?_⟩
    refine ⟨((j+1:Nat):Int),by rw [wrap_i64 (by omega) (by omega)];rfl,?_⟩
    refine ⟨(j+1,N*64+v),⟨by show j+1<=cs.length;omega,ws++[v],?_,by show N*64+v=_;rw [z_mz,<-hN]⟩,by show cs.length - (j+1)<cs.length - j;omega,Ent.same ⟨rfl,rfl,rfl,rfl,rfl,rfl,rfl,rfl,trivial⟩ rfl⟩
    show valsA url (cs.take (j+1))=_
    rw [htk,z_ik,hws]
    simp only [valsA,hvy]
  ·have hge0: ¬(j:Int)<((mkS cs).size:Int):=hge
   have hjc:cs.take j=cs:=List.take_of_length_le (by omega)
   rw [hjc] at hws
   have hwlen:ws.length=cs.length:=(z_dD hws).1
   have hw64:=(z_dD hws).2
   obtain ⟨l0,hd0,hd1⟩:=z_o3 vs ws hv4
   obtain ⟨he0,ho0⟩:e=0/\out=l0:=by
    rcases hv2 with ⟨q,q'⟩ | ⟨q,q'⟩
    ·rw [hd0] at q'
     exact ⟨q,(Option.some.inj q').symm⟩
    ·rw [hd0] at q';cases q'
   subst he0 ho0
   have hvall:valsA url (pre.map (·.data.toList)++[cs]).flatten=some (vs++ws):=by
    rw [hnext,z_ik,hv1,hws]
   obtain ⟨X,hX⟩: ∃X:Nat,X=N*2^(6*(4 - cs.length)):=⟨_,rfl⟩
   have hgz:=grpZ (ws:=ws) (by omega) (by omega) hw64
   rw [<-hN,hwlen,<-hX] at hgz
   have hXl:X<16777216:=by
    have h:=z_nf _ ws rfl hw64
    rw [<-hN,hwlen] at h
    rw [hX,show (16777216:Nat)=64^cs.length*2^(6*(4 - cs.length)) by rw [show (64:Nat)=2^6 from rfl,<-Nat.pow_mul,<-Nat.pow_add,show 6*cs.length+6*(4 - cs.length)=24 by omega]]
    exact Nat.mul_lt_mul_of_pos_right h (Nat.pow_pos (by decide))
   have hpw:2^(8*(4 - cs.length))<=2^16:=Nat.pow_le_pow_right (by decide) (by omega)
   have hpw0:0<2^(8*(4 - cs.length)):=Nat.pow_pos (by decide)
   refine ⟨(((4 - (mkS cs).size):Nat):Int),by rw [wrap_i64 (by omega) (by omega)];omega,?_⟩
   refine ⟨_,wrap_i64 (by omega) (by omega),?_⟩
   refine ⟨by first | decide | omega,?_⟩
   refine ⟨(X:Int),?_,?_⟩
   ·rw [show (6*((4 - (mkS cs).size:Nat):Int)).toNat=6*(4 - cs.length) by omega,show min (6*(4 - cs.length)) IntKind.i64.bits=6*(4 - cs.length) from Nat.min_eq_left (by show _<=64;omega)]
    have e:((N:Int)*2^(6*(4 - cs.length)))=(X:Int):=by rw [hX];simp
    show IntKind.i64.wrap ((N:Int)*2^(6*(4 - cs.length)))=_
    rw [e,wrap_i64 (by omega) (by omega)]
   refine ⟨(((4 - (mkS cs).size):Nat):Int),by rw [wrap_i64 (by omega) (by omega)];omega,?_⟩
   refine ⟨_,wrap_i64 (by omega) (by omega),?_⟩
   refine ⟨by first | decide | omega,?_⟩
   refine ⟨((2^(8*(4 - cs.length)):Nat):Int),?_,?_⟩
   ·rw [show (8*((4 - (mkS cs).size:Nat):Int)).toNat=8*(4 - cs.length) by omega,show min (8*(4 - cs.length)) IntKind.i64.bits=8*(4 - cs.length) from Nat.min_eq_left (by show _<=64;omega)]
    have e:((1:Int)*2^(8*(4 - cs.length)))=((2^(8*(4 - cs.length)):Nat):Int):=by simp
    rw [e,wrap_i64 (by omega) (by omega)]
   refine ⟨((2^(8*(4 - cs.length)) - 1:Nat):Int),by rw [wrap_i64 (by omega) (by omega)];omega,?_⟩
   refine ⟨((X%2^(8*(4 - cs.length)):Nat):Int),z_oE (by omega) (by omega),?_⟩
   conv=>whnf
   generalize hq:decide (((mkS cs).size:Int)<4)=bq
   cases bq
   ·refine ⟨((((mkS cs).size - 1):Nat):Int),by rw [wrap_i64 (by omega) (by omega)];omega,?_⟩
    have hne: ¬(((mkS cs).size:Int)<4):=of_decide_eq_false hq
    have h0:X%2^(8*(4 - cs.length))=0:=by rw [show cs.length=4 by omega];exact Nat.mod_one _
    rw [if_pos h0] at hgz
    refine z_ai (ι:=Option Addr×Nat×Nat×List UInt8) 3 (fun j=>[(2,.c (.p 0 0)),(6,.c (.p 1 0)),(7,.c (.p 2 0)),(9,.c (.v (.int .i64 (X:Int)))),(58,.c (.v (.int .i64 (((mkS cs).size - 1:Nat):Int)))),(59,.c (.v (.int .i64 (j.2.2.1:Int))))])
     (fun j=>[⟨2,z_as,[.v (.int .i64 0)]⟩,⟨1,z_al,[.v (.slice j.1 j.2.2.2.length j.2.1)]⟩,⟨0,z_ah,[.v (.string al)]⟩]) (fun j=>[browF z_ab j.1 j.2.2.2 j.2.1])
     (fun j=>j.2.2.1<=cs.length - 1/\j.2.2.2=out++bytesN X j.2.2.1) (fun j=>cs.length - j.2.2.1) (A,c,0,out) ⟨Nat.zero_le _,(List.append_nil _).symm⟩ (Ent.mk' ⟨rfl,rfl,rfl,rfl,rfl,rfl,trivial⟩ rfl (fun β w' hs=>(hs.keepB (List.Sublist.refl _)).perm [1])) (z_bs g) ?_
    rintro ⟨A1,c1,k,l1⟩ ⟨hk,hl1⟩
    simp only at hk hl1
    have hl1l:l1.length=out.length+k:=by rw [hl1,List.length_append,z_jz]
    refine BIf.dec (fun hlt=>?_) (fun hge=>?_)
    ·have hlt0:(k:Int)<(((mkS cs).size - 1:Nat):Int):=hlt
     refine z_ak (z_bs g) z_dR (by kernel_rfl) [⟨2,z_as,[.v (.int .i64 0)]⟩,⟨1,z_al,[.v (.slice A1 l1.length c1)]⟩,⟨0,z_ah,[.v (.string al)]⟩] [] (Sub.of (List.Sublist.refl _) (List.nil_sublist _)) ?_
     refine ⟨_,wrap_i64 (by omega) (by omega),?_⟩
     refine ⟨_,wrap_i64 (by omega) (by omega),?_⟩
     refine ⟨by first | decide | omega,?_⟩
     refine ⟨((X/256^(2 - k):Nat):Int),z_oF (by omega),?_⟩
     refine ⟨((u8n (X/256^(2 - k))).toNat:Int),z_fy _,?_⟩
     intro b3
     refine ⟨subPerm [],?_⟩
     have hol:=hok.len
     have hol2:out.length<=3*pre.length:=hol
     have hpl:pre.length<L.length:=by
      rcases Nat.lt_or_ge pre.length L.length with h | h
      ·exact h
      ·rw [List.getElem?_eq_none h] at hx;cases hx
     obtain ⟨l2,hl2⟩: ∃l2,l2=l1++[u8n (X/256^(2 - k))]:=⟨_,rfl⟩
     have hl2l:l1.length+1=l2.length:=by rw [hl2,List.length_append];rfl
     refine ⟨1,l1.length,l2.length,_,[u8n (X/256^(2 - k))].map byte,l2.map byte,rfl,fun β w' hs=>z_am (hs.get 0 rfl),z_aq _,hl2l,by rw [hl2,List.map_append],by rw [z_ag];omega,by show l2.length*1<=_;omega,?_⟩
     intro A2 c2 r1 r2 r3
     refine ⟨subPerm [],?_⟩
     refine ⟨(((k+1):Nat):Int),by rw [wrap_i64 (by omega) (by omega)];rfl,?_⟩
     exact ⟨(A2,c2,k+1,l2),⟨by show k+1<=_;omega,by show l2=_;rw [hl2,hl1,z_h3,List.append_assoc]⟩,by show cs.length - (k+1)<cs.length - k;omega,Ent.mk' ⟨rfl,rfl,rfl,rfl,rfl,rfl,trivial⟩ rfl (fun β w' hs=>hs.perm [1])⟩
    ·have hge0: ¬(k:Int)<(((mkS cs).size - 1:Nat):Int):=hge
     have hkk:k=cs.length - 1:=by omega
     refine ⟨⟨l1,A1,c1,0⟩,⟨?_,?_,?_⟩,Ent.mk' trivial rfl (fun β w' hs=>hs)⟩
     ·show pre++[mkS cs]=L.take (pre++[mkS cs]).length
      rw [List.length_append,List.length_singleton,List.take_add_one,hx,<-hok.eq]
      rfl
     ·refine ⟨vs++ws,by rw [List.map_append,List.map_singleton,hdm];exact hvall,?_⟩
      rw [hd1]
      have hh:((0:Int)=0/\decG ws=some (bytesN X (cs.length - 1)))\/((0:Int)=4/\decG ws=none):=(Or.inl (⟨rfl,hgz⟩:(0:Int)=0/\decG ws=some (bytesN X (cs.length - 1))))
      rcases hh with ⟨q1,q2⟩ | ⟨q1,q2⟩
      ·exact .inl ⟨q1,by rw [q2,hl1,hkk];rfl⟩
      ·exact .inr ⟨q1,by rw [q2];rfl⟩
     ·have h:=hok.len
      show l1.length<=3*(pre++[mkS cs]).length
      rw [hl1l,List.length_append,List.length_singleton]
      have h2:out.length<=3*pre.length:=h
      omega
   ·have hlt4:((mkS cs).size:Int)<4:=of_decide_eq_true hq
    conv=>whnf
    generalize hq2:decide (((X%2^(8*(4 - cs.length)):Nat):Int)=0)=bz
    cases bz
    ·have he0: ¬((X%2^(8*(4 - cs.length)):Nat):Int)=0:=of_decide_eq_false hq2
     rw [if_neg (show¬X%2^(8*(4 - cs.length))=0 by omega)] at hgz
     refine ⟨((((mkS cs).size - 1):Nat):Int),by rw [wrap_i64 (by omega) (by omega)];omega,?_⟩
     refine z_ai (ι:=Option Addr×Nat×Nat×List UInt8) 3 (fun j=>[(2,.c (.p 0 0)),(6,.c (.p 1 0)),(7,.c (.p 2 0)),(9,.c (.v (.int .i64 (X:Int)))),(58,.c (.v (.int .i64 (((mkS cs).size - 1:Nat):Int)))),(59,.c (.v (.int .i64 (j.2.2.1:Int))))])
      (fun j=>[⟨2,z_as,[.v (.int .i64 4)]⟩,⟨1,z_al,[.v (.slice j.1 j.2.2.2.length j.2.1)]⟩,⟨0,z_ah,[.v (.string al)]⟩]) (fun j=>[browF z_ab j.1 j.2.2.2 j.2.1])
      (fun j=>j.2.2.1<=cs.length - 1/\j.2.2.2=out++bytesN X j.2.2.1) (fun j=>cs.length - j.2.2.1) (A,c,0,out) ⟨Nat.zero_le _,(List.append_nil _).symm⟩ (Ent.mk' ⟨rfl,rfl,rfl,rfl,rfl,rfl,trivial⟩ rfl (fun β w' hs=>(hs.keepB (List.Sublist.refl _)).perm [1])) (z_bs g) ?_
     rintro ⟨A1,c1,k,l1⟩ ⟨hk,hl1⟩
     simp only at hk hl1
     have hl1l:l1.length=out.length+k:=by rw [hl1,List.length_append,z_jz]
     refine BIf.dec (fun hlt=>?_) (fun hge=>?_)
     ·have hlt0:(k:Int)<(((mkS cs).size - 1:Nat):Int):=hlt
      refine z_ak (z_bs g) z_dR (by kernel_rfl) [⟨2,z_as,[.v (.int .i64 4)]⟩,⟨1,z_al,[.v (.slice A1 l1.length c1)]⟩,⟨0,z_ah,[.v (.string al)]⟩] [] (Sub.of (List.Sublist.refl _) (List.nil_sublist _)) ?_
      refine ⟨_,wrap_i64 (by omega) (by omega),?_⟩
      refine ⟨_,wrap_i64 (by omega) (by omega),?_⟩
      refine ⟨by first | decide | omega,?_⟩
      refine ⟨((X/256^(2 - k):Nat):Int),z_oF (by omega),?_⟩
      refine ⟨((u8n (X/256^(2 - k))).toNat:Int),z_fy _,?_⟩
      intro b3
      refine ⟨subPerm [],?_⟩
      have hol:=hok.len
      have hol2:out.length<=3*pre.length:=hol
      have hpl:pre.length<L.length:=by
       rcases Nat.lt_or_ge pre.length L.length with h | h
       ·exact h
       ·rw [List.getElem?_eq_none h] at hx;cases hx
      obtain ⟨l2,hl2⟩: ∃l2,l2=l1++[u8n (X/256^(2 - k))]:=⟨_,rfl⟩
      have hl2l:l1.length+1=l2.length:=by rw [hl2,List.length_append];rfl
      refine ⟨1,l1.length,l2.length,_,[u8n (X/256^(2 - k))].map byte,l2.map byte,rfl,fun β w' hs=>z_am (hs.get 0 rfl),z_aq _,hl2l,by rw [hl2,List.map_append],by rw [z_ag];omega,by show l2.length*1<=_;omega,?_⟩
      intro A2 c2 r1 r2 r3
      refine ⟨subPerm [],?_⟩
      refine ⟨(((k+1):Nat):Int),by rw [wrap_i64 (by omega) (by omega)];rfl,?_⟩
      exact ⟨(A2,c2,k+1,l2),⟨by show k+1<=_;omega,by show l2=_;rw [hl2,hl1,z_h3,List.append_assoc]⟩,by show cs.length - (k+1)<cs.length - k;omega,Ent.mk' ⟨rfl,rfl,rfl,rfl,rfl,rfl,trivial⟩ rfl (fun β w' hs=>hs.perm [1])⟩
     ·have hge0: ¬(k:Int)<(((mkS cs).size - 1:Nat):Int):=hge
      have hkk:k=cs.length - 1:=by omega
      refine ⟨⟨l1,A1,c1,4⟩,⟨?_,?_,?_⟩,Ent.mk' trivial rfl (fun β w' hs=>hs)⟩
      ·show pre++[mkS cs]=L.take (pre++[mkS cs]).length
       rw [List.length_append,List.length_singleton,List.take_add_one,hx,<-hok.eq]
       rfl
      ·refine ⟨vs++ws,by rw [List.map_append,List.map_singleton,hdm];exact hvall,?_⟩
       rw [hd1]
       have hh:((4:Int)=0/\decG ws=some (bytesN X (cs.length - 1)))\/((4:Int)=4/\decG ws=none):=(Or.inr (⟨rfl,hgz⟩:(4:Int)=4/\decG ws=none))
       rcases hh with ⟨q1,q2⟩ | ⟨q1,q2⟩
       ·exact .inl ⟨q1,by rw [q2,hl1,hkk];rfl⟩
       ·exact .inr ⟨q1,by rw [q2];rfl⟩
      ·have h:=hok.len
       show l1.length<=3*(pre++[mkS cs]).length
       rw [hl1l,List.length_append,List.length_singleton]
       have h2:out.length<=3*pre.length:=h
       omega
    ·have he0:((X%2^(8*(4 - cs.length)):Nat):Int)=0:=of_decide_eq_true hq2
     rw [if_pos (show X%2^(8*(4 - cs.length))=0 by omega)] at hgz
     refine ⟨((((mkS cs).size - 1):Nat):Int),by rw [wrap_i64 (by omega) (by omega)];omega,?_⟩
     refine z_ai (ι:=Option Addr×Nat×Nat×List UInt8) 3 (fun j=>[(2,.c (.p 0 0)),(6,.c (.p 1 0)),(7,.c (.p 2 0)),(9,.c (.v (.int .i64 (X:Int)))),(58,.c (.v (.int .i64 (((mkS cs).size - 1:Nat):Int)))),(59,.c (.v (.int .i64 (j.2.2.1:Int))))])
      (fun j=>[⟨2,z_as,[.v (.int .i64 0)]⟩,⟨1,z_al,[.v (.slice j.1 j.2.2.2.length j.2.1)]⟩,⟨0,z_ah,[.v (.string al)]⟩]) (fun j=>[browF z_ab j.1 j.2.2.2 j.2.1])
      (fun j=>j.2.2.1<=cs.length - 1/\j.2.2.2=out++bytesN X j.2.2.1) (fun j=>cs.length - j.2.2.1) (A,c,0,out) ⟨Nat.zero_le _,(List.append_nil _).symm⟩ (Ent.mk' ⟨rfl,rfl,rfl,rfl,rfl,rfl,trivial⟩ rfl (fun β w' hs=>(hs.keepB (List.Sublist.refl _)).perm [1])) (z_bs g) ?_
     rintro ⟨A1,c1,k,l1⟩ ⟨hk,hl1⟩
     simp only at hk hl1
     have hl1l:l1.length=out.length+k:=by rw [hl1,List.length_append,z_jz]
     refine BIf.dec (fun hlt=>?_) (fun hge=>?_)
     ·have hlt0:(k:Int)<(((mkS cs).size - 1:Nat):Int):=hlt
      refine z_ak (z_bs g) z_dR (by kernel_rfl) [⟨2,z_as,[.v (.int .i64 0)]⟩,⟨1,z_al,[.v (.slice A1 l1.length c1)]⟩,⟨0,z_ah,[.v (.string al)]⟩] [] (Sub.of (List.Sublist.refl _) (List.nil_sublist _)) ?_
      refine ⟨_,wrap_i64 (by omega) (by omega),?_⟩
      refine ⟨_,wrap_i64 (by omega) (by omega),?_⟩
      refine ⟨by first | decide | omega,?_⟩
      refine ⟨((X/256^(2 - k):Nat):Int),z_oF (by omega),?_⟩
      refine ⟨((u8n (X/256^(2 - k))).toNat:Int),z_fy _,?_⟩
      intro b3
      refine ⟨subPerm [],?_⟩
      have hol:=hok.len
      have hol2:out.length<=3*pre.length:=hol
      have hpl:pre.length<L.length:=by
       rcases Nat.lt_or_ge pre.length L.length with h | h
       ·exact h
       ·rw [List.getElem?_eq_none h] at hx;cases hx
      obtain ⟨l2,hl2⟩: ∃l2,l2=l1++[u8n (X/256^(2 - k))]:=⟨_,rfl⟩
      have hl2l:l1.length+1=l2.length:=by rw [hl2,List.length_append];rfl
      refine ⟨1,l1.length,l2.length,_,[u8n (X/256^(2 - k))].map byte,l2.map byte,rfl,fun β w' hs=>z_am (hs.get 0 rfl),z_aq _,hl2l,by rw [hl2,List.map_append],by rw [z_ag];omega,by show l2.length*1<=_;omega,?_⟩
      intro A2 c2 r1 r2 r3
      refine ⟨subPerm [],?_⟩
      refine ⟨(((k+1):Nat):Int),by rw [wrap_i64 (by omega) (by omega)];rfl,?_⟩
      exact ⟨(A2,c2,k+1,l2),⟨by show k+1<=_;omega,by show l2=_;rw [hl2,hl1,z_h3,List.append_assoc]⟩,by show cs.length - (k+1)<cs.length - k;omega,Ent.mk' ⟨rfl,rfl,rfl,rfl,rfl,rfl,trivial⟩ rfl (fun β w' hs=>hs.perm [1])⟩
     ·have hge0: ¬(k:Int)<(((mkS cs).size - 1:Nat):Int):=hge
      have hkk:k=cs.length - 1:=by omega
      refine ⟨⟨l1,A1,c1,0⟩,⟨?_,?_,?_⟩,Ent.mk' trivial rfl (fun β w' hs=>hs)⟩
      ·show pre++[mkS cs]=L.take (pre++[mkS cs]).length
       rw [List.length_append,List.length_singleton,List.take_add_one,hx,<-hok.eq]
       rfl
      ·refine ⟨vs++ws,by rw [List.map_append,List.map_singleton,hdm];exact hvall,?_⟩
       rw [hd1]
       have hh:((0:Int)=0/\decG ws=some (bytesN X (cs.length - 1)))\/((0:Int)=4/\decG ws=none):=(Or.inl (⟨rfl,hgz⟩:(0:Int)=0/\decG ws=some (bytesN X (cs.length - 1))))
       rcases hh with ⟨q1,q2⟩ | ⟨q1,q2⟩
       ·exact .inl ⟨q1,by rw [q2,hl1,hkk];rfl⟩
       ·exact .inr ⟨q1,by rw [q2];rfl⟩
      ·have h:=hok.len
       show l1.length<=3*(pre++[mkS cs]).length
       rw [hl1l,List.length_append,List.length_singleton]
       have h2:out.length<=3*pre.length:=h
       omega
 ·rintro xs ⟨out,A,c,e⟩ Fs hok ⟨rfl,rfl⟩
  obtain ⟨vs,hv1,hv2⟩:=hok.vs
  have hfl:(xs.map (·.data.toList)).flatten=s0:=by
   rw [<-hLd,List.map_map,show ((fun b:ByteArray=>b.data.toList)∘mkS)=id from funext fun l=>by simp [mkS],List.map_id,z_hS 3 _ _ (Nat.le_refl _)]
  rw [hfl] at hv1
  have hds:decS url s0=decG vs:=by unfold decS;rw [hv1];rfl
  rcases hv2 with ⟨q1,q2⟩ | ⟨q1,q2⟩
  ·obtain rfl:e=0:=q1
   intro β w' hs
   have hcap:out.length<=c:=z_gZ (show (browF z_ab A out c).p w' from hs.get 0 rfl)
   exact (hs.keepB (List.nil_sublist _)).fin [0] ⟨A,out,c,0,rfl,.inl ⟨rfl,by rw [hds,q2]⟩,hcap,rfl⟩
  ·obtain rfl:e=4:=q1
   refine z_ak g z_gd (by kernel_rfl) [⟨2,z_as,[.v (.int .i64 4)]⟩] [] (Sub.of (List.sublist_append_left _ _) (List.nil_sublist _)) ?_
   intro β w' hs
   exact ((hs.keepB (List.nil_sublist _)).nilRow z_ab 1).fin [0] ⟨none,[],0,4,rfl,.inr ⟨by decide,by rw [hds,q2]⟩,Nat.le_refl _,rfl⟩
 ·rintro e pre ⟨⟩ Fs ⟨rfl,hno⟩ rfl
  refine z_ak g z_gd (by kernel_rfl) [⟨2,z_as,[.v (.int .i64 5)]⟩] [] (Sub.of (List.Sublist.refl _) (List.nil_sublist _)) ?_
  intro β w' hs
  exact ((hs.keepB (List.nil_sublist _)).nilRow z_ab 1).fin [0] ⟨none,[],0,5,rfl,.inr ⟨by decide,hno⟩,Nat.le_refl _,rfl⟩
def strip (s:List UInt8):List UInt8:=if s.getLast?=some 61 then s.dropLast else s
theorem z_ot (s:List UInt8):unpad s=strip (strip s):=by
 unfold unpad strip
 by_cases h:s.getLast?=some 61
 ·rw [if_pos h,if_pos h]
 ·rw [if_neg h,if_neg h,if_neg h]
def decOutP (l:Option (List UInt8)) (v:Value) (Fs:List Fact):Prop:= ∃A l' c e,v= .tuple #[.slice A l'.length c,.int .i64 e]/\((e=0/\l=some l')\/(e≠0/\l=none))/\l'.length<=c/\Fs=[browF z_ab A l' c]
theorem z_ti (w:World) (s:List UInt8) (hL:s.length<=1000000):Con Tryz.prog z_jR #[.string (mkS s)] w [] (decOutP (decP s)):=by
 have g:=z_lI w (Un [])
 have hml:=z_ag
 refine z_ad (cx:=z_iV w (Un [])) g z_nH rfl rfl (β:=Va.z) [.c (.v (.string (mkS s)))] 0 [] [] rfl rfl (Sat.start rfl) ?_
 have hsz:=z_hG s
 refine ⟨by first | decide | omega,?_⟩
 refine ⟨(((mkS s).size%4:Nat):Int),Int.ofNat_tmod _ _,?_⟩
 refine BIf.not (BIf.dec (fun h0=>?_) (fun h0=>?_))
 ·have h00:(((mkS s).size%4:Nat):Int)=0:=h0
  refine z_ai (ι:=Nat×List UInt8) 0 (fun j=>[(0,.c (.v (.string (mkS j.2)))),(9,.c (.v (.int .i64 (j.1:Int))))]) (fun _=>[]) (fun _=>[])
   (fun j=>j.1<=2/\j.2.length<=s.length/\(j.1=0->j.2=s)/\(j.1=1->j.2=strip s)/\(j.1=2->j.2=unpad s)) (fun j=>2 - j.1) (0,s) ⟨Nat.zero_le _,Nat.le_refl _,fun _=>rfl,(fun h=>by cases h),(fun h=>by cases h)⟩ (Ent.mk' ⟨rfl,rfl,trivial⟩ rfl (fun β w' hs=>hs)) g ?_
  rintro ⟨i,t⟩ ⟨hi,htl,t0,t1,t2⟩
  simp only at hi htl t0 t1 t2
  have htz:=z_hG t
  refine BIf.dec (fun hlt=>?_) (fun hge=>?_)
  ·have hlt0:(i:Int)<2:=hlt
   have hsl:(strip t).length<=t.length:=by
    unfold strip
    split
    ·rw [List.length_dropLast];omega
    ·exact Nat.le_refl _
   have hnx: ∀u,u=strip t->i+1<=2/\u.length<=s.length/\(i+1=0->u=s)/\(i+1=1->u=strip s)/\(i+1=2->u=unpad s):=by
    rintro u rfl
    refine ⟨by omega,by omega,fun h=>by omega,fun h=>?_,fun h=>?_⟩
    ·rw [t0 (by omega)]
    ·rw [t1 (by omega),<-z_ot]
   conv=>whnf
   generalize hq:decide ((0:Int)<((mkS t).size:Int))=bq
   cases bq
   ·have hq0: ¬(0:Int)<((mkS t).size:Int):=of_decide_eq_false hq
    have ht:t=strip t:=by
     rw [List.length_eq_zero_iff.1 (show t.length=0 by omega)]
     rfl
    refine ⟨(((i+1):Nat):Int),by rw [wrap_i64 (by omega) (by omega)];rfl,?_⟩
    exact ⟨(i+1,t),hnx t ht,by show 2 - (i+1)<2 - i;omega,Ent.mk' ⟨rfl,rfl,trivial⟩ rfl (fun β w' hs=>hs)⟩
   ·have hq0:(0:Int)<((mkS t).size:Int):=of_decide_eq_true hq
    obtain ⟨u,c,rfl⟩: ∃u c,t=u++[c]:=⟨t.dropLast,t.getLast (fun e=>by rw [e] at hq0;exact absurd hq0 (by decide)),(List.dropLast_concat_getLast _).symm⟩
    have hul:(u++[c]).length=u.length+1:=by rw [List.length_append];rfl
    refine ⟨((u.length:Nat):Int),by show IntKind.i64.wrap (((mkS (u++[c])).size:Int) - 1)=_;rw [wrap_i64 (by omega) (by omega)];omega,?_⟩
    refine ⟨u.length,c,rfl,by show (mkS (u++[c])).data.toList[u.length]?=some c;simp [mkS],?_⟩
    have hst:strip (u++[c])=if c=61 then u else u++[c]:=by
     unfold strip
     rw [List.getLast?_concat,List.dropLast_concat]
     by_cases h:c=61
     ·rw [if_pos h,if_pos (by rw [h])]
     ·rw [if_neg h,if_neg (fun q=>h (Option.some.inj q))]
    conv=>whnf
    generalize hq2:decide ((c.toNat:Int)=61)=bc
    cases bc
    ·have hc: ¬(c.toNat:Int)=61:=of_decide_eq_false hq2
     rw [if_neg (fun q=>hc (by rw [q];rfl))] at hst
     refine ⟨(((i+1):Nat):Int),by rw [wrap_i64 (by omega) (by omega)];rfl,?_⟩
     exact ⟨(i+1,u++[c]),hnx _ hst.symm,by show 2 - (i+1)<2 - i;omega,Ent.mk' ⟨rfl,rfl,trivial⟩ rfl (fun β w' hs=>hs)⟩
    ·have hc:(c.toNat:Int)=61:=of_decide_eq_true hq2
     have hc1:c=61:=UInt8.toNat_inj.1 (by show c.toNat=61;omega)
     rw [if_pos hc1] at hst
     refine ⟨((u.length:Nat):Int),by show IntKind.i64.wrap (((mkS (u++[c])).size:Int) - 1)=_;rw [wrap_i64 (by omega) (by omega)];omega,?_⟩
     refine ⟨u.length,0,rfl,rfl,by show u.length<=(mkS (u++[c])).size;omega,Nat.zero_le _,?_⟩
     have hcut:(mkS (u++[c])).extract 0 u.length=mkS u:=by rw [z_m3,List.take_left]
     refine ⟨(((i+1):Nat):Int),by rw [wrap_i64 (by omega) (by omega)];rfl,?_⟩
     refine ⟨(i+1,u),hnx _ hst.symm,by show 2 - (i+1)<2 - i;omega,?_⟩
     simp only [<-hcut]
     exact Ent.mk' ⟨rfl,rfl,trivial⟩ rfl (fun β w' hs=>hs)
  ·have hge0: ¬(i:Int)<2:=hge
   have htu:t=unpad s:=t2 (by omega)
   subst htu
   have huz:=z_hG (unpad s)
   refine ⟨by first | decide | omega,?_⟩
   refine ⟨(((mkS (unpad s)).size%4:Nat):Int),Int.ofNat_tmod _ _,?_⟩
   refine BIf.dec (fun h1=>?_) (fun h1=>?_)
   ·have h11:(((mkS (unpad s)).size%4:Nat):Int)=1:=h1
    intro β w' hs
    exact (hs.nilRow z_ab 1).fin [0] ⟨none,[],0,5,rfl,.inr ⟨by decide,by unfold decP;rw [if_neg (by omega),if_pos (by omega)]⟩,Nat.le_refl _,rfl⟩
   ·have h11: ¬(((mkS (unpad s)).size%4:Nat):Int)=1:=h1
    have hdp:decP s=decS false (unpad s):=by unfold decP;rw [if_neg (by omega),if_neg (by omega)]
    refine z_ac [] (fun β w' hs=>z_sS w' _ (mkS (unpad s)) false ⟨by decide,by decide,by decide⟩ (by omega) (by omega)) ?_
    rintro v Fs ⟨A,l,c,e,rfl,hle,hcap,rfl⟩
    rw [show (mkS (unpad s)).data.toList=unpad s by simp [mkS],<-hdp] at hle
    intro β w' hs
    exact hs.fin [0] ⟨A,l,c,e,rfl,hle,hcap,rfl⟩
 ·have h00: ¬(((mkS s).size%4:Nat):Int)=0:=h0
  intro β w' hs
  exact (hs.nilRow z_ab 1).fin [0] ⟨none,[],0,2,rfl,.inr ⟨by decide,by unfold decP;rw [if_pos (by omega)]⟩,Nat.le_refl _,rfl⟩
end Go.Proofs.YtloeaiafphkjnaaGreatDoor.Sx
namespace Go.Proofs.YtloeaiafphkjnaaGreatDoor.Sx
open Go
def roX (f:Fact):Fact:=⟨false,f.D,f.p,f.st⟩
theorem Sat.asRo {cx:Cx} {β:Va} {n:Nat} {H:List Bk} {F:List Fact} {w:World} (h:Sat cx β n H F w) (j:Nat) {f:Fact} (hj:nth F j=some f) (ho:f.own=true:=by rfl):Sat cx β n H (putAt F j (roX f)) w:=
 h.upd hj ho (Chg.refl _ _) (show f.p w from h.get j hj) (fun _ hk=> .inl hk)
theorem Sat.ofRo {cx:Cx} {β:Va} {n:Nat} {H:List Bk} {F:List Fact} {w:World} (h:Sat cx β n H F w) (j:Nat) {f:Fact} (hj:nth F j=some (roX f)) (g:Fact) (hgo:g.own=false) (hp:g.p w) (hD: ∀k,g.D k->f.D k):Sat cx β n H (g::F) w:=
 h.sub j hj rfl g hgo hp hD
theorem BIf.yes {P Q:Prop} {b:Bool} (hb:b=true) (h:P):BIf P Q b:=by subst hb;exact h
theorem BIf.no {P Q:Prop} {b:Bool} (hb:b=false) (h:Q):BIf P Q b:=by subst hb;exact h
end Go.Proofs.YtloeaiafphkjnaaGreatDoor.Sx
namespace Go.Proofs.YtloeaiafphkjnaaGreatDoor.Sx
open Go Sha
attribute [local irreducible] Calls
end Go.Proofs.YtloeaiafphkjnaaGreatDoor.Sx
namespace Go.Proofs.YtloeaiafphkjnaaGreatDoor.Sx
open Go
attribute [local irreducible] Calls
end Go.Proofs.YtloeaiafphkjnaaGreatDoor.Sx
namespace Go.Proofs.YtloeaiafphkjnaaGreatDoor.Sx
open Go Sha
attribute [local irreducible] Calls
theorem z_vB {w w':World} (h:RowKit.Below w.heap.size w w'):Chg None_ w w':=⟨h.os,h.tape,h.output,h.size,fun k hk _=>h.block k hk⟩
def joinB (xs:List ByteArray) (sep:ByteArray):ByteArray:=⟨(Lib.join (xs.map (·.data.toList)) sep.data.toList).toArray⟩
theorem z_q2 (w:World) (b c:Nat) (xs:List ByteArray) (sep:ByteArray) (hP:Rd 1 (some ⟨b,0,none⟩) xs.length (xs.map Value.string) w) (hb:b<w.heap.size) (hN:xs.length<=1000) (hcap:xs.length<=c) (hlen:(Lib.join (xs.map (·.data.toList)) sep.data.toList).length<=140737488355328):
  Pu Tryz.prog z_l6 #[.slice (some ⟨b,0,none⟩) xs.length c,.string sep] w (.string (joinB xs sep)):=by
 refine pu_of (Calls.mono (Tryz.strings_Join b 0 c xs sep w (fun j x hx=>?_) hb (by omega) hcap hlen) ?_)
 ·have hj:j<xs.length:=(List.getElem?_eq_some_iff.1 hx).1
  obtain ⟨ad,h1,h2⟩:=hP.2 (by omega)
  obtain rfl:=Option.some.inj h1
  have:=h2 j (.string x) (by rw [List.getElem?_map,hx];rfl)
  rw [z_bJ] at this
  exact this
 ·rintro e w' ⟨rfl,hw⟩
  exact ⟨_,rfl,rfl,z_vB hw⟩
end Go.Proofs.YtloeaiafphkjnaaGreatDoor.Sx
namespace Go.Proofs.YtloeaiafphkjnaaGreatDoor.Sx
open Go
attribute [local irreducible] Calls
end Go.Proofs.YtloeaiafphkjnaaGreatDoor.Sx
namespace Go.Proofs.YtloeaiafphkjnaaGreatDoor.Sx
open Go Sha
attribute [local irreducible] Calls
end Go.Proofs.YtloeaiafphkjnaaGreatDoor.Sx
namespace Go.Proofs.YtloeaiafphkjnaaGreatDoor.Sx
open Go
end Go.Proofs.YtloeaiafphkjnaaGreatDoor.Sx
namespace Go.Proofs.YtloeaiafphkjnaaGreatDoor.Sx
open Go
attribute [local irreducible] Calls
section
variable {cx:Cx} {β:Va} {n:Nat} {env:Env} {H:List Bk} {F:List Fact} {w:World}
end
end Go.Proofs.YtloeaiafphkjnaaGreatDoor.Sx
namespace Go.Proofs.YtloeaiafphkjnaaGreatDoor.Sx
open Go
attribute [local irreducible] Calls
theorem z_uK {v:Value} (h:v.oneCell'=true): ∀u∈[v],u.oneCell'=true:=fun u hu=>by obtain rfl:=List.mem_singleton.1 hu;exact h
theorem z_vD {x y:Nat} (hx:x<36028797018963968) (hy:y<256):bits .or .i64 ((x*256:Nat):Int) (y:Int)=((x*256+y:Nat):Int):=by
 show IntKind.i64.wrap (((BitVec.ofInt 64 ((x*256:Nat):Int)) ||| (BitVec.ofInt 64 (y:Int))).toNat:Int)=_
 have h1:(BitVec.ofInt 64 ((x*256:Nat):Int)).toNat=x<<<8:=by
  rw [BitVec.toNat_ofInt,Nat.shiftLeft_eq]
  omega
 have h2:(BitVec.ofInt 64 (y:Int)).toNat=y:=by
  rw [BitVec.toNat_ofInt]
  omega
 rw [BitVec.toNat_or,h1,h2,<-Nat.shiftLeft_add_eq_or_of_lt (by omega) x,Nat.shiftLeft_eq,wrap_i64 (by omega) (by omega)]
theorem z_uO {x:Nat} (hx:x<36028797018963968):IntKind.i64.wrap ((x:Int)*2^(min (8:Int).toNat IntKind.i64.bits))=((x*256:Nat):Int):=by
 have h1:min (8:Int).toNat IntKind.i64.bits=8:=rfl
 rw [h1,wrap_i64 (by omega) (by omega)]
 omega
end Go.Proofs.YtloeaiafphkjnaaGreatDoor.Sx
namespace Go.Proofs.YtloeaiafphkjnaaGreatDoor.Sx
open Go Sha
attribute [local irreducible] Calls
end Go.Proofs.YtloeaiafphkjnaaGreatDoor.Sx
namespace Go.Proofs.YtloeaiafphkjnaaGreatDoor.Sx
open Go
attribute [local irreducible] Calls
end Go.Proofs.YtloeaiafphkjnaaGreatDoor.Sx
namespace Go.Proofs.YtloeaiafphkjnaaGreatDoor.Sx
open Go
attribute [local irreducible] Calls
section
variable {cx:Cx} {β:Va} {n:Nat} {H:List Bk} {F:List Fact} {w:World}
theorem rowD {e size:Nat} {A:Option Addr} {k c:Nat} {xs:List Value} {w:World} (h:(rowF e size (.slice A k c) k xs).p w): ∀b,(rdF size A k xs).D b->(rowF e size (.slice A k c) k xs).D b:=by
 rintro b ⟨h0,ad,q,rfl⟩
 have hk:0<k:=Nat.pos_of_ne_zero (fun q=>by rw [q,Nat.zero_mul] at h0;exact Nat.lt_irrefl _ h0)
 rcases h.2 with ⟨he,h0⟩ | ⟨g,cap,cur,he,_⟩
 ·omega
 ·have hA:A=some ⟨g,0,none⟩:=by injection he
  rw [q] at hA
  obtain rfl:=Option.some.inj hA
  show Value.ownBlock (.slice A k c)=_
  rw [q]
  rfl
theorem Sat.rowRd (h:Sat cx β n H F w) (j:Nat) {e size:Nat} {A:Option Addr} {k c:Nat} {xs:List Value} (hj:nth F j=some (rowF e size (.slice A k c) k xs)):Sat cx β n H (putAt F j (rdF size A k xs)) w:=by
 have hp:=h.get j hj
 exact h.upd hj rfl (Chg.refl _ _) (z_am hp) (fun b hb=> .inl (rowD hp b hb))
end
end Go.Proofs.YtloeaiafphkjnaaGreatDoor.Sx
namespace Go.Proofs.YtloeaiafphkjnaaGreatDoor.Sx
open Go
attribute [local irreducible] Calls
end Go.Proofs.YtloeaiafphkjnaaGreatDoor.Sx
namespace Go.Proofs.YtloeaiafphkjnaaGreatDoor.Sx
open Go
end Go.Proofs.YtloeaiafphkjnaaGreatDoor.Sx
namespace Go.Proofs.YtloeaiafphkjnaaGreatDoor.Sx
open Go
attribute [local irreducible] Calls
theorem Sat.rdRow {cx:Cx} {β:Va} {n:Nat} {H:List Bk} {F:List Fact} {w:World} {e:TypeId} {A:Option Addr} {l:List UInt8} {c:Nat} (h:Sat cx β n H F w) (j:Nat) (hj:nth F j=some (browF e A l c)):Sat cx β n H (bsF A l::dropIx [j] 0 F) w:=by
 have q:takeIx F [j]=[browF e A l c]:=by simp only [takeIx,hj]
 refine h.fuse [j] (bsF A l) (fun w hm=>?_) (fun k hk=>?_) rfl (by rw [q];exact ⟨rfl,trivial⟩)
 ·rw [q] at hm
  exact z_am (hm.fact _ List.mem_cons_self)
 ·rw [q]
  obtain ⟨_,ad,h,rfl⟩:=hk
  cases h
  exact ⟨_,List.mem_cons_self,rfl⟩
theorem cut_D {A:Option Addr} {l m:List UInt8} {c i k:Nat} (hm:m.length<=l.length) (h:(bsF (cutA A c i 1) m).D k):(bsF A l).D k:=by
 obtain ⟨h0,ad,hA,rfl⟩:=h
 have h0':0<m.length*1:=h0
 unfold cutA at hA
 split at hA
 ·exact ⟨by show 0<l.length*1;omega,ad,hA,rfl⟩
 ·cases A with
  | none=>cases hA
  | some a=>
   have hA':a.add (i*1)=ad:=by simpa using hA
   exact ⟨by show 0<l.length*1;omega,a,rfl,by rw [<-hA'];unfold Addr.add;split<;>rfl⟩
theorem z_pd {cx:Cx} {n:Nat} {env:Env} {H:List Bk} {F:List Fact} {c:Code} {Q:Exit->KT} {p:Prop} (h: ∀β w,Sat cx β n H F w->p) (k:p->Tri cx c Q n env H F):Tri cx c Q n env H F:=
 ⟨fun β a w hi=>(k (h β w hi.sat)).run β a w hi⟩
def cutP (url:Bool) (s:List UInt8):List UInt8:=match url with
 | true=>s
 | false=>unpad s
def decX (url:Bool) (s:List UInt8):Option (List UInt8):=match url with
 | true=>decU s
 | false=>decP s
theorem shr5 {X m:Nat} (hm:m<=5):((X:Int)).fdiv (2^min (5 - (m:Int)).toNat IntKind.i64.bits)=((X/2^(5 - m):Nat):Int):=by
 rw [show (5 - (m:Int)).toNat=5 - m by omega,show min (5 - m) IntKind.i64.bits=5 - m from Nat.min_eq_left (by show _<=64;omega),show ((2:Int)^(5 - m))=((2^(5 - m):Nat):Int) by simp]
 rw [Int.fdiv_eq_ediv_of_nonneg _ (Int.natCast_nonneg _)]
 rfl
theorem z_tA {v m:Nat} (hm:m<=5):(rbits v)[m]?=some (u8n (v/2^(5 - m)%2)):=by
 match m,hm with
 | 0,_=>rfl
 | 1,_=>rfl
 | 2,_=>rfl
 | 3,_=>rfl
 | 4,_=>rfl
 | 5,_=>show some (u8n (v%2))=some (u8n (v/1%2));rw [Nat.div_one]
theorem z_mm: ∀ {l:List UInt8},l.length<8->chop l=([],l)
 | [],_=>rfl
 | [_],_=>rfl
 | [_,_],_=>rfl
 | [_,_,_],_=>rfl
 | [_,_,_,_],_=>rfl
 | [_,_,_,_,_],_=>rfl
 | [_,_,_,_,_,_],_=>rfl
 | [_,_,_,_,_,_,_],_=>rfl
 | _::_::_::_::_::_::_::_::_,h=>absurd h (by simp only [List.length_cons];omega)
theorem z_q4 {l:List UInt8} (h:8<=l.length):chop l=(fold8 (l.take 8)::(chop (l.drop 8)).1,(chop (l.drop 8)).2):=by
 have:=chop8 (l.take 8) (by rw [List.length_take];omega) (l.drop 8)
 rwa [List.take_append_drop] at this
theorem z_p1 {A:Option Addr} {c s:Nat}:cutA A c 0 s=A:=by
 cases A<;>simp [cutA,Addr.add]
theorem z_pR (l:List UInt8) (x:UInt8):fold8 (l++[x])=fold8 l*2+x:=by simp [fold8]
theorem z_rD {ι:Type} {cx:Cx} {c:Code} {Q:Exit->KT} {G:Prop} (T:ι->Prop) (n':Nat) (E:ι->Env) (HH:ι->List Bk) (FF:ι->List Fact) (body:(∀i,T i->Tri cx c Q n' (E i) (HH i) (FF i))->G) (hk: ∀i,T i->Tri cx c Q n' (E i) (HH i) (FF i)):G:=body hk
def DecT (url:Bool) (s:List UInt8) (n:Nat):Prop:=n=(cutP url s).length/\n<=s.length/\s.take n=cutP url s/\(url=false->s.length%4=0)/\(url=true->s.length%4≠1)
def decE (url:Bool) (s:List UInt8) (n:Nat):Env:=[(0,.c (.v (.string (mkS s)))),(1,.c (.v (.bool url))),(6,.c (.v (.int .i64 (n:Int))))]
theorem z_tF (s:List UInt8) (h:s.length%4≠1):DecT true s s.length:=⟨rfl,Nat.le_refl _,List.take_length,(fun q=>by cases q),fun _=>h⟩
theorem z_rT {s:List UInt8} {k:Nat} {b:UInt8} (hk:k+1=s.length) (hb:s[k]?=some b):s.getLast?=some b:=by
 rw [List.getLast?_eq_getElem?,<-hk]
 exact hb
theorem z_tS {s:List UInt8} (h:s.length%4=0) (hno:s.getLast?≠some 61):DecT false s s.length:=by
 have e:unpad s=s:=by unfold unpad;rw [if_neg hno]
 exact ⟨by show _=(unpad s).length;rw [e],Nat.le_refl _,by show _=unpad s;rw [e,List.take_length],fun _=>h,(fun q=>by cases q)⟩
theorem z_vg {s:List UInt8} (h:s.length%4=0) (h1:s.getLast?=some 61) (hno:s.dropLast.getLast?≠some 61):DecT false s (s.length - 1):=by
 have e:unpad s=s.dropLast:=by unfold unpad;rw [if_pos h1,if_neg hno]
 exact ⟨by show _=(unpad s).length;rw [e,List.length_dropLast],Nat.sub_le _ _,by show _=unpad s;rw [e,List.dropLast_eq_take],fun _=>h,(fun q=>by cases q)⟩
theorem z_vw {s:List UInt8} (h:s.length%4=0) (h1:s.getLast?=some 61) (h2:s.dropLast.getLast?=some 61):DecT false s (s.length - 1 - 1):=by
 have e:unpad s=s.dropLast.dropLast:=by unfold unpad;rw [if_pos h1,if_pos h2]
 refine ⟨by show _=(unpad s).length;rw [e,List.length_dropLast,List.length_dropLast],by omega,?_,fun _=>h,(fun q=>by cases q)⟩
 show _=unpad s
 rw [e,List.dropLast_eq_take,List.dropLast_eq_take,List.take_take,List.length_take]
 congr 1
 omega
theorem z_iy (w:World) (s:List UInt8) (url:Bool) (hL:s.length<=1000000):Con Tryz.prog z_cJ #[.string (mkS s),.bool url] w [] (decOutP (decX url s)):=by
 have g:=z_eC w (Un [])
 refine z_dt (cx:=z_a6 w (Un [])) g z_f9 rfl rfl (β:=Va.z) [.c (.v (.string (mkS s))),.c (.v (.bool url))] 0 [] [] rfl rfl (Sat.start rfl) ?_
 have hml:=z_ag
 have hsz:=z_hG s
 apply z_rD (cx:=z_a6 w (Un [])) (DecT url s) 0 (decE url s) (fun _=>[]) (fun _=>[])
 ·intro hkey
  refine z_an g ?_
  refine z_an g ?_
  refine BIf.mk (fun hu:(!url)=true=>?_) (fun hu=>?_)
  ·have hu0:url=false:=by simpa using hu
   refine ⟨by first | decide | omega,?_⟩
   refine ⟨(((mkS s).size%4:Nat):Int),Int.ofNat_tmod _ _,?_⟩
   refine BIf.not (BIf.dec (fun h4=>?_) (fun h4=>?_))
   ·have h40:(((mkS s).size%4:Nat):Int)=0:=h4
    refine BIf.no hu0 ?_
    refine z_an g ?_
    refine z_an g ?_
    refine BIf.yes hu ?_
    refine BIf.dec (fun h0=>?_) (fun h0=>?_)
    ·have h00:(0:Int)<((mkS s).size:Int):=h0
     obtain ⟨b,hb, -⟩:=at_lt (show s.length - 1<s.length by omega)
     have hla:=z_rT (k:=s.length - 1) (by omega) hb
     refine ⟨((((mkS s).size - 1):Nat):Int),by rw [wrap_i64 (by omega) (by omega)];omega,?_⟩
     refine ⟨(mkS s).size - 1,b,rfl,by rw [hsz];exact hb,?_⟩
     have hs4:s.length%4=0:=by omega
     refine BIf.dec (fun hb1=>?_) (fun hb1=>?_)
     ·obtain rfl:b=61:=UInt8.toNat_inj.1 (Int.ofNat_inj.1 hb1)
      obtain ⟨b2,hb2, -⟩:=at_lt (show s.length - 2<s.length by omega)
      have hla2:s.dropLast.getLast?=some b2:=z_rT (k:=s.length - 2) (by rw [List.length_dropLast];omega) (by rw [List.getElem?_dropLast,if_pos (by omega)];exact hb2)
      refine ⟨((((mkS s).size - 1):Nat):Int),by rw [wrap_i64 (by omega) (by omega)];omega,?_⟩
      refine ⟨((((mkS s).size - 2):Nat):Int),by rw [wrap_i64 (by omega) (by omega)];omega,?_⟩
      refine ⟨(mkS s).size - 2,b2,rfl,by rw [hsz];exact hb2,?_⟩
      refine BIf.dec (fun hb3=>?_) (fun hb3=>?_)
      ·obtain rfl:b2=61:=UInt8.toNat_inj.1 (Int.ofNat_inj.1 hb3)
       refine ⟨((((s.length - 1 - 1):Nat)):Int),by rw [wrap_i64 (by omega) (by omega)];omega,?_⟩
       refine z_ft (ι:=Nat) (DecT url s) 0 (decE url s) (fun _=>[]) (fun _=>[]) hkey (EntX.of (s.length - 1 - 1) (by rw [hu0];exact z_vw hs4 hla hla2) (Ent.mk' ⟨rfl,rfl,rfl,trivial⟩ rfl (fun β w' hs=>hs)))
      ·have hb30:b2≠61:=fun q=>hb3 (by rw [q];rfl)
       rw [hsz]
       refine z_ft (ι:=Nat) (DecT url s) 0 (decE url s) (fun _=>[]) (fun _=>[]) hkey (EntX.of (s.length - 1) (by rw [hu0];exact z_vg hs4 hla (by rw [hla2];intro q;cases q;exact hb30 rfl)) (Ent.mk' ⟨rfl,rfl,rfl,trivial⟩ rfl (fun β w' hs=>hs)))
     ·have hb10:b≠61:=fun q=>hb1 (by rw [q];rfl)
      refine z_ft (ι:=Nat) (DecT url s) 0 (decE url s) (fun _=>[]) (fun _=>[]) hkey (EntX.of (s.length) (by rw [hu0];exact z_tS hs4 (by rw [hla];intro q;cases q;exact hb10 rfl)) (Ent.mk' ⟨rfl,rfl,rfl,trivial⟩ rfl (fun β w' hs=>hs)))
    ·have h00: ¬(0:Int)<((mkS s).size:Int):=h0
     have hs0:s=[]:=List.length_eq_zero_iff.1 (by omega)
     refine z_ft (ι:=Nat) (DecT url s) 0 (decE url s) (fun _=>[]) (fun _=>[]) hkey (EntX.of s.length (by rw [hu0];exact z_tS (by omega) (by rw [hs0];decide)) (Ent.mk' ⟨rfl,rfl,rfl,trivial⟩ rfl (fun β w' hs=>hs)))
   ·have h40: ¬(((mkS s).size%4:Nat):Int)=0:=h4
    intro β w' hs
    refine (hs.nilRow z_ab 1).fin [0] ⟨none,[],0,2,rfl,.inr ⟨by decide,?_⟩,Nat.le_refl _,rfl⟩
    rw [hu0]
    show decP s=none
    unfold decP
    rw [if_pos (by omega)]
  ·have hu0:url=true:=by simpa using hu
   refine BIf.mk (fun hu2=>?_) (fun hu2=>absurd (hu2.symm.trans hu0) (by decide))
   refine ⟨by first | decide | omega,?_⟩
   refine ⟨(((mkS s).size%4:Nat):Int),Int.ofNat_tmod _ _,?_⟩
   refine BIf.dec (fun h1=>?_) (fun h1=>?_)
   ·have h10:(((mkS s).size%4:Nat):Int)=1:=h1
    intro β w' hs
    refine (hs.nilRow z_ab 1).fin [0] ⟨none,[],0,2,rfl,.inr ⟨by decide,?_⟩,Nat.le_refl _,rfl⟩
    rw [hu0]
    show decU s=none
    unfold decU
    rw [if_pos (by omega)]
   ·have h10: ¬(((mkS s).size%4:Nat):Int)=1:=h1
    refine z_an g ?_
    refine z_an g ?_
    refine BIf.no hu ?_
    refine z_ft (ι:=Nat) (DecT url s) 0 (decE url s) (fun _=>[]) (fun _=>[]) hkey (EntX.of s.length (by rw [hu0];exact z_tF s (by omega)) (Ent.mk' ⟨rfl,rfl,rfl,trivial⟩ rfl (fun β w' hs=>hs)))
 ·rintro n ⟨hn1,hn2,hn3,hn4,hn5⟩
  refine z_fI g ?_
  refine ⟨by first | decide | omega,?_⟩
  refine ⟨((n%4:Nat):Int),Int.ofNat_tmod _ _,?_⟩
  refine BIf.dec (fun h1=>?_) (fun h1=>?_)
  ·have h10:((n%4:Nat):Int)=1:=h1
   intro β w' hs
   refine (hs.nilRow z_ab 1).fin [0] ⟨none,[],0,5,rfl,.inr ⟨by decide,?_⟩,Nat.le_refl _,rfl⟩
   cases url with
   | true=>
    have h2:=hn5 rfl
    have h3:n=s.length:=hn1
    omega
   | false=>
    have h3:n=(unpad s).length:=hn1
    show decP s=none
    unfold decP
    rw [if_neg (by have:=hn4 rfl;omega),if_pos (by omega)]
  ·have h10: ¬((n%4:Nat):Int)=1:=h1
   have hdx:decX url s=decS url (cutP url s):=by
    cases url with
    | true=>
     show decU s=_
     unfold decU
     rw [if_neg (hn5 rfl)]
     rfl
    | false=>
     have h3:n=(unpad s).length:=hn1
     show decP s=_
     unfold decP
     rw [if_neg (by have:=hn4 rfl;omega),if_neg (by omega)]
     rfl
   rw [hdx,<-hn3]
   obtain ⟨U,hU⟩: ∃U,s.take n=U:=⟨_,rfl⟩
   have hUl:U.length=n:=by rw [<-hU,List.length_take];omega
   have hUat: ∀i,i<n->s[i]?=U[i]?:=fun i hi=>by rw [<-hU,List.getElem?_take,if_pos hi]
   rw [hU]
   refine z_ai (ι:=Nat×Option Addr×Nat×List Nat) 0 (fun j=>[(0,.c (.v (.string (mkS s)))),(1,.c (.v (.bool url))),(6,.c (.v (.int .i64 (n:Int)))),(7,.c (.v (.slice j.2.1 (j.2.2.2.flatMap rbits).length j.2.2.1))),(8,.c (.v (.int .i64 (j.1:Int))))]) (fun _=>[]) (fun j=>[browF z_ab j.2.1 (j.2.2.2.flatMap rbits) j.2.2.1])
    (fun j=>j.1<=n/\valsA url (U.take j.1)=some j.2.2.2) (fun j=>n - j.1) (0,none,0,[]) ⟨Nat.zero_le _,rfl⟩ (Ent.mk' ⟨rfl,rfl,rfl,rfl,rfl,trivial⟩ rfl (fun β w' hs=>hs.nilRow z_ab 1)) g ?_
   rintro ⟨i,A,c,vs⟩ ⟨hi,hvs⟩
   simp only at hi hvs
   have hvl:=z_dD hvs
   have hvl1:vs.length=i:=by rw [hvl.1,List.length_take];omega
   have hbl:(vs.flatMap rbits).length=6*i:=by
    rw [<-hvl1]
    clear hvl hvl1 hvs
    induction vs with
    | nil=>rfl
    | cons a r ih=>rw [List.flatMap_cons,List.length_append,ih,List.length_cons];simp [rbits];omega
   refine BIf.dec (fun hlt=>?_) (fun hge=>?_)
   ·have hlt0:(i:Int)<(n:Int):=hlt
    obtain ⟨y,hy,hyU⟩:=at_lt (show i<U.length by omega)
    refine ⟨i,y,rfl,by show s[i]?=_;rw [hUat i (by omega)];exact hy,?_⟩
    refine z_af (fun β w' hs=>z_r8 w' y url) ?_
    cases hv:valA url y with
    | none=>
     have hvv:valV url y= -1:=by unfold valV;rw [hv]
     rw [hvv]
     intro β w' hs
     refine (hs.nilRow z_ab 1).fin [0] ⟨none,[],0,5,rfl,.inr ⟨by decide,?_⟩,Nat.le_refl _,rfl⟩
     unfold decS
     rw [z_jp hv hyU]
     rfl
    | some v=>
     have hvv:valV url y=(v:Int):=by unfold valV;rw [hv]
     have hv64:=z_or hv
     rw [hvv]
     have hrl:(rbits v).length=6:=rfl
     refine z_ai (ι:=Option Addr×Nat×Nat) 0 (fun j=>[(0,.c (.v (.string (mkS s)))),(1,.c (.v (.bool url))),(6,.c (.v (.int .i64 (n:Int)))),(7,.c (.v (.slice j.1 (vs.flatMap rbits++(rbits v).take j.2.2).length j.2.1))),(8,.c (.v (.int .i64 (i:Int)))),(9,.c (.v (.int .i64 (v:Int)))),(10,.c (.v (.int .i64 (5 - (j.2.2:Int)))))]) (fun _=>[]) (fun j=>[browF z_ab j.1 (vs.flatMap rbits++(rbits v).take j.2.2) j.2.1])
      (fun j=>j.2.2<=6) (fun j=>6 - j.2.2) (A,c,0) (Nat.zero_le _) (Ent.mk' ⟨rfl,rfl,rfl,by simp only [List.take_zero,List.append_nil];rfl,rfl,rfl,rfl,trivial⟩ rfl (fun β w' hs=>by simp only [List.take_zero,List.append_nil];exact hs)) g ?_
     rintro ⟨A1,c1,m⟩ hm
     simp only at hm
     refine BIf.dec (fun hlt2=>?_) (fun hge2=>?_)
     ·have hlt20:(5 - (m:Int))>=0:=hlt2
      refine ⟨by first | decide | omega,?_⟩
      refine ⟨((v/2^(5 - m):Nat):Int),shr5 (by omega),?_⟩
      have hvd:v/2^(5 - m)<64:=Nat.lt_of_le_of_lt (Nat.div_le_self _ _) hv64
      refine ⟨((v/2^(5 - m)%2:Nat):Int),z_oE (k:=1) (by omega) (by decide),?_⟩
      refine ⟨((u8n (v/2^(5 - m)%2)).toNat:Int),z_fy _,?_⟩
      intro b1
      obtain ⟨B,hB⟩: ∃B,B=vs.flatMap rbits++(rbits v).take m:=⟨_,rfl⟩
      have hBn:vs.flatMap rbits++(rbits v).take (m+1)=B++[u8n (v/2^(5 - m)%2)]:=by
       rw [hB,List.take_add_one,z_tA (by omega),List.append_assoc]
       rfl
      have hBl:B.length=6*i+m:=by rw [hB,List.length_append,hbl,List.length_take,hrl];omega
      rw [<-hB]
      obtain ⟨B2,hB2⟩: ∃B2,B2=B++[u8n (v/2^(5 - m)%2)]:=⟨_,rfl⟩
      have hB2l:B.length+1=B2.length:=by rw [hB2,List.length_append];rfl
      rw [<-hB2] at hBn
      refine ⟨1,B.length,B2.length,B.map byte,[u8n (v/2^(5 - m)%2)].map byte,B2.map byte,rfl,fun β w' hs=>z_am (hs.get 0 rfl),z_aq _,hB2l,by rw [hB2,List.map_append],by rw [hml];omega,by show B2.length*1<=_;omega,?_⟩
      intro A2 c2 r1 r2 r3
      refine ⟨_,wrap_i64 (by omega) (by omega),?_⟩
      have e5:(5 - (m:Int) - 1)=5 - ((m+1:Nat):Int):=by omega
      refine ⟨(A2,c2,m+1),by show m+1<=6;omega,by show 6 - (m+1)<6 - m;omega,?_⟩
      simp only [hBn]
      exact Ent.mk' ⟨rfl,rfl,rfl,rfl,rfl,rfl,by rw [<-e5];rfl,trivial⟩ rfl (fun β w' hs=>hs.perm [1])
     ·have hge20: ¬(5 - (m:Int))>=0:=hge2
      obtain rfl:m=6:=by omega
      refine ⟨(((i+1):Nat):Int),by rw [wrap_i64 (by omega) (by omega)];rfl,?_⟩
      have hnx:(vs++[v]).flatMap rbits=vs.flatMap rbits++(rbits v).take 6:=by rw [List.flatMap_append,List.take_of_length_le (Nat.le_of_eq hrl)];simp
      refine ⟨(i+1,A1,c1,vs++[v]),⟨by show i+1<=n;omega,?_⟩,by show n - (i+1)<n - i;omega,?_⟩
      ·show valsA url (U.take (i+1))=some (vs++[v])
       rw [List.take_add_one,hy,z_ik,hvs]
       show (match (some vs),(valsA url [y]) with | some x,some y=>some (x++y) | _,_=>none)=_
       have:valsA url [y]=some [v]:=by unfold valsA;rw [hv];rfl
       rw [this]
      ·simp only [hnx]
       exact Ent.mk' ⟨rfl,rfl,rfl,rfl,rfl,trivial⟩ rfl (fun β w' hs=>hs)
   ·have hge0: ¬(i:Int)<(n:Int):=hge
    obtain rfl:i=n:=by omega
    rw [List.take_of_length_le (by omega)] at hvs
    have hdS:decS url U=refG vs:=by
     unfold decS
     rw [hvs]
     exact (z_qS vs (fun v hv=>hvl.2 v hv) (by omega)).symm
    rw [hdS]
    obtain ⟨bits,hbits⟩: ∃bits,vs.flatMap rbits=bits:=⟨_,rfl⟩
    have hrG:refG vs=if (chop bits).2.all (fun x=>decide (x=0)) then some (chop bits).1 else none:=by unfold refG;rw [hbits]
    rw [hrG]
    rw [hbits] at hbl ⊢
    refine z_pd (p:=bits.length<=c/\(0<bits.length-> ∃ad,A=some ad)) (fun β w' hs=>⟨z_gZ (hs.get 0 rfl),fun h=>Bs.addr (show Bs w' A bits from z_am (hs.get 0 rfl)) h⟩) ?_
    rintro ⟨hcap,hadr⟩
    refine z_ai (ι:=(Option Addr×Nat×List UInt8)×(Option Addr×Nat×List UInt8)) 0 (fun j=>[(7,.c (.v (.slice j.2.1 j.2.2.2.length j.2.2.1))),(11,.c (.v (.slice j.1.1 j.1.2.2.length j.1.2.1)))]) (fun _=>[]) (fun j=>[browF z_ab j.1.1 j.1.2.2 j.1.2.1,bsF j.2.1 j.2.2.2])
     (fun j=>chop bits=(j.1.2.2++(chop j.2.2.2).1,(chop j.2.2.2).2)/\j.2.2.2.length<=j.2.2.1/\8*j.1.2.2.length+j.2.2.2.length=bits.length/\(0<j.2.2.2.length-> ∃ad,j.2.1=some ad)) (fun j=>j.2.2.2.length) ((none,0,[]),(A,c,bits)) ⟨rfl,hcap,by simp,hadr⟩ (Ent.mk' ⟨rfl,rfl,trivial⟩ rfl (fun β w' hs=>((hs.nilRow z_ab 1).rdRow 1 rfl).perm [1,0])) g ?_
    rintro ⟨⟨O,oc,out⟩,⟨A3,c3,rem⟩⟩ ⟨hch,hcap3,hlen3,hadr3⟩
    simp only at hch hcap3 hlen3 hadr3
    refine BIf.dec (fun hlt=>?_) (fun hge=>?_)
    ·have hlt0:(rem.length:Int)>=8:=hlt
     obtain ⟨ad,hAd⟩: ∃ad,A3=some ad:=hadr3 (by omega)
     refine ⟨c3,8,0,8,c3,A3,rfl,rfl,rfl,Nat.le_refl _,by omega,Nat.zero_le _,rfl,rfl,z_p1,?_⟩
     refine z_ai (ι:=Nat×UInt8) 0 (fun j=>[(7,.c (.v (.slice A3 rem.length c3))),(11,.c (.v (.slice O out.length oc))),(12,.c (.v (byte j.2))),(89,.c (.v (.slice A3 8 c3))),(90,.c (.v (.int .i64 8))),(91,.c (.v (.int .i64 (j.1:Int))))]) (fun _=>[]) (fun j=>[browF z_ab O out oc,bsF A3 rem])
      (fun j=>j.1<=8/\j.2=fold8 (rem.take j.1)) (fun j=>8 - j.1) (0,0) ⟨Nat.zero_le _,rfl⟩ (Ent.mk' ⟨rfl,rfl,rfl,rfl,rfl,rfl,trivial⟩ rfl (fun β w' hs=>hs)) g ?_
     rintro ⟨i2,b⟩ ⟨hi2,hb⟩
     simp only at hi2 hb
     refine BIf.dec (fun hlt2=>?_) (fun hge2=>?_)
     ·have hlt20:(i2:Int)<8:=hlt2
      obtain ⟨z,hz, -⟩:=at_lt (show i2<rem.length by omega)
      refine ⟨ad,i2,hAd,rfl,by omega,?_⟩
      refine ⟨byte z,fun β w' hs=>Rd.cell1 (show Rd 1 (some ad) rem.length (rem.map byte) w' from hAd▸hs.get 1 rfl) (by rw [List.getElem?_map,hz];rfl),?_⟩
      refine ⟨((b*2:UInt8).toNat:Int),by rw [IntKind.wrap_u8,UInt8.toNat_mul];show ((b.toNat:Int)*2)%256=((b.toNat *2%256:Nat):Int);omega,?_⟩
      refine ⟨((b*2+z:UInt8).toNat:Int),by rw [IntKind.wrap_u8,UInt8.toNat_add];show (((b*2:UInt8).toNat:Int)+(z.toNat:Int))%256=(((b*2:UInt8).toNat+z.toNat)%256:Nat);omega,?_⟩
      refine ⟨((i2+1:Nat):Int),by rw [wrap_i64 (by omega) (by omega)];rfl,?_⟩
      exact ⟨(i2+1,b*2+z),⟨by show i2+1<=8;omega,by show b*2+z=fold8 (rem.take (i2+1));rw [List.take_add_one,hz,hb];exact (z_pR _ _).symm⟩,by show 8 - (i2+1)<8 - i2;omega,Ent.mk' ⟨rfl,rfl,rfl,rfl,rfl,rfl,trivial⟩ rfl (fun β w' hs=>hs)⟩
     ·have hge20: ¬(i2:Int)<8:=hge2
      obtain rfl:i2=8:=by omega
      refine z_ak g z_e2 (by kernel_rfl) [] [] (Sub.of (List.Sublist.refl _) (List.nil_sublist _)) ?_
      refine ⟨c3,rem.length,8,rem.length - 8,c3 - 8,_,rfl,rfl,rfl,Nat.le_refl _,hcap3,by omega,rfl,rfl,rfl,?_⟩
      intro b3
      refine ⟨subPerm [],?_⟩
      obtain ⟨out2,hout2⟩: ∃out2,out2=out++[b]:=⟨_,rfl⟩
      have hol:out.length+1=out2.length:=by rw [hout2,List.length_append];rfl
      refine ⟨1,out.length,out2.length,out.map byte,[b].map byte,out2.map byte,rfl,fun β w' hs=>z_am (hs.get 0 rfl),z_aq _,hol,by rw [hout2,List.map_append],by rw [hml];omega,by show out2.length*1<=_;omega,?_⟩
      intro O2 oc2 r1 r2 r3
      refine ⟨subPerm [],?_⟩
      have hrl8:(rem.drop 8).length=rem.length - 8:=List.length_drop ..
      have hcl:=z_q4 (l:=rem) (by omega)
      refine ⟨((O2,oc2,out2),(cutA A3 c3 8 1,c3 - 8,rem.drop 8)),⟨?_,by show (rem.drop 8).length<=c3 - 8;omega,by show 8*out2.length+(rem.drop 8).length=_;omega,fun _=>?_⟩,by show (rem.drop 8).length<rem.length;omega,?_⟩
      ·show chop bits=(out2++(chop (rem.drop 8)).1,(chop (rem.drop 8)).2)
       rw [hch,hcl,hout2,hb,List.append_assoc]
       rfl
      ·show∃ad,cutA A3 c3 8 1=some ad
       rw [hAd]
       unfold cutA
       split<;>exact ⟨_,rfl⟩
      ·simp only [hrl8]
       exact Ent.mk' ⟨rfl,rfl,trivial⟩ rfl (fun β w' hs=>(hs.sub 2 rfl rfl (bsF (cutA A3 c3 8 1) (rem.drop 8)) rfl (by
        have h:=Bs.cutB (show Bs _ A3 rem from hs.get 2 rfl) (i:=8) (j:=rem.length) hcap3 (by omega) (Nat.le_refl _) (List.take_of_length_le (Nat.le_of_eq hrl8))
        exact h) (fun k hk=>cut_D (by omega) hk)).perm [2,0])
    ·have hge0: ¬(rem.length:Int)>=8:=hge
     refine z_ai (ι:=Nat) 0 (fun j=>[(11,.c (.v (.slice O out.length oc))),(106,.c (.v (.slice A3 rem.length c3))),(107,.c (.v (.int .i64 (rem.length:Int)))),(108,.c (.v (.int .i64 (j:Int))))]) (fun _=>[]) (fun j=>[browF z_ab O out oc,bsF A3 rem])
      (fun j=>j<=rem.length/\(rem.take j).all (fun x=>decide (x=0))=true) (fun j=>rem.length - j) (0:Nat) ⟨Nat.zero_le _,rfl⟩ (Ent.mk' ⟨rfl,rfl,rfl,rfl,trivial⟩ rfl (fun β w' hs=>hs)) g ?_
     rintro j ⟨hj,hz0⟩
     refine BIf.dec (fun hlt2=>?_) (fun hge2=>?_)
     ·have hlt20:(j:Int)<(rem.length:Int):=hlt2
      obtain ⟨ad,hAd⟩:=hadr3 (by omega)
      obtain ⟨z,hz,hzm⟩:=at_lt (show j<rem.length by omega)
      refine ⟨ad,j,hAd,rfl,by omega,?_⟩
      refine ⟨byte z,fun β w' hs=>Rd.cell1 (show Rd 1 (some ad) rem.length (rem.map byte) w' from hAd▸hs.get 1 rfl) (by rw [List.getElem?_map,hz];rfl),?_⟩
      refine BIf.not (BIf.dec (fun he=>?_) (fun hne=>?_))
      ·obtain rfl:z=0:=UInt8.toNat_inj.1 (Int.ofNat_inj.1 he)
       refine ⟨((j+1:Nat):Int),by rw [wrap_i64 (by omega) (by omega)];rfl,?_⟩
       exact ⟨j+1,⟨by omega,by rw [List.take_add_one,hz,List.all_append,hz0];rfl⟩,by omega,Ent.mk' ⟨rfl,rfl,rfl,rfl,trivial⟩ rfl (fun β w' hs=>hs)⟩
      ·have hz1:z≠0:=fun q=>hne (by rw [q];rfl)
       intro β w' hs
       refine (hs.nilRow z_ab 1).fin [0] ⟨none,[],0,4,rfl,.inr ⟨by decide,?_⟩,Nat.le_refl _,rfl⟩
       rw [hch,z_mm (l:=rem) (by omega),if_neg]
       intro q
       exact hz1 (of_decide_eq_true (List.all_eq_true.1 q z hzm))
     ·have hge20: ¬(j:Int)<(rem.length:Int):=hge2
      rw [List.take_of_length_le (by omega)] at hz0
      intro β w' hs
      refine hs.fin [0] ⟨O,out,oc,0,rfl,.inl ⟨rfl,?_⟩,z_gZ (hs.get 0 rfl),rfl⟩
      rw [hch,z_mm (l:=rem) (by omega),if_pos hz0,List.append_nil]
theorem z_jq {c:UInt8} {v:Nat} (h:digA c=some v):v<16:=by
 unfold digA at h
 split at h
 ·injection h;omega
 ·split at h
  ·injection h;omega
  ·cases h
theorem z_vT (c:UInt8):_root_.Go.Lib.indexByte [48,49,50,51,52,53,54,55,56,57,97,98,99,100,101,102] c=match digA c with | some v=>(v:Int) | none=> -1:=by
 have h: ∀n:_root_.Fin 256,_root_.Go.Lib.indexByte [48,49,50,51,52,53,54,55,56,57,97,98,99,100,101,102] (UInt8.ofNat n.val)=match digA (UInt8.ofNat n.val) with | some v=>(v:Int) | none=> -1:=by decide+kernel
 have h1:=h ⟨c.toNat,c.toNat_lt⟩
 simpa using h1
def digV (c:UInt8):Int:=match digA c with | some v=>(v:Int) | none=> -1
theorem z_tD (w:World) (c:UInt8):Pu Tryz.prog z_hQ #[.string ⟨#[48,49,50,51,52,53,54,55,56,57,97,98,99,100,101,102]⟩,.int .u8 c.toNat] w (.int .i64 (digV c)):=by
 refine pu_of (Calls.mono (Tryz.strings_IndexByte ⟨#[48,49,50,51,52,53,54,55,56,57,97,98,99,100,101,102]⟩ c.toNat w) ?_)
 rintro e w' ⟨rfl,rfl⟩
 refine ⟨_,rfl,?_,Chg.refl _ _⟩
 unfold digV
 rw [<-z_vT]
 show Value.int .i64 (_root_.Go.Lib.indexByte _ ((c.toNat:Int).toNat.toUInt8))=_
 rw [Int.toNat_natCast,show c.toNat.toUInt8=c from UInt8.ofNat_toNat]
theorem z_uJ {x y:Nat} (hx:x<33554432) (hy:y<16):bits .or .i64 ((x*16:Nat):Int) (y:Int)=((x*16+y:Nat):Int):=by
 show IntKind.i64.wrap (((BitVec.ofInt 64 ((x*16:Nat):Int)) ||| (BitVec.ofInt 64 (y:Int))).toNat:Int)=_
 have h1:(BitVec.ofInt 64 ((x*16:Nat):Int)).toNat=x<<<4:=by
  rw [BitVec.toNat_ofInt,Nat.shiftLeft_eq]
  omega
 have h2:(BitVec.ofInt 64 (y:Int)).toNat=y:=by
  rw [BitVec.toNat_ofInt]
  omega
 rw [BitVec.toNat_or,h1,h2,<-Nat.shiftLeft_add_eq_or_of_lt (by omega) x,Nat.shiftLeft_eq,wrap_i64 (by omega) (by omega)]
theorem z_jn: ∀(a b:List UInt8),a.length%2=0->unhexA (a++b)=match unhexA a,unhexA b with | some x,some y=>some (x++y) | _,_=>none
 | [],b,_=>by rw [List.nil_append];cases h:unhexA b<;>simp [unhexA,h]
 | [_],b,h=>by simp at h
 | x::y::r,b,h=>by
  have h1:=z_jn r b (by simp only [List.length_cons] at h;omega)
  simp only [List.cons_append,unhexA,h1]
  cases digA x<;>cases digA y<;>cases unhexA r<;>cases unhexA b<;>simp
theorem z_g5 (b c:UInt8): ∀(a d:List UInt8),a.length%2=0->(digA b=none\/digA c=none)->unhexA (a++b::c::d)=none
 | [],d,_,h=>by
  simp only [List.nil_append,unhexA]
  rcases h with h | h
  ·rw [h]
  ·rw [h];cases digA b<;>rfl
 | [_],d,h,_=>by simp at h
 | x::y::r,d,h,hb=>by
  have h1:=z_g5 b c r d (by simp only [List.length_cons] at h;omega) hb
  simp only [List.cons_append,unhexA,h1]
  cases digA x<;>cases digA y<;>rfl
theorem z_js: ∀l:List UInt8,l.length%2=1->unhexA l=none
 | [],h=>by simp at h
 | [_],_=>rfl
 | a::b::r,h=>by
  simp only [unhexA,z_js r (by simp only [List.length_cons] at h;omega)]
  cases digA a<;>cases digA b<;>rfl
theorem z_oj (w:World) (s0:List UInt8) (hL:s0.length<=1000000):Con Tryz.prog z_lx #[.string (mkS s0)] w [] (decOutP (unhexA s0)):=by
 have g:=z_l0 w (Un [])
 have hml:=z_ag
 have hsz:=z_hG s0
 refine z_ad (cx:=z_jY w (Un [])) g z_oM rfl rfl (β:=Va.z) [.c (.v (.string (mkS s0)))] 0 [] [] rfl rfl (Sat.start rfl) ?_
 refine ⟨by first | decide | omega,?_⟩
 refine ⟨(((mkS s0).size%2:Nat):Int),Int.ofNat_tmod _ _,?_⟩
 refine BIf.not (BIf.dec (fun h0=>?_) (fun h0=>?_))
 ·have h00:(((mkS s0).size%2:Nat):Int)=0:=h0
  refine z_ac [] (fun β w' hs=>z_py w' (mkS s0) 2) ?_
  rintro v Fs ⟨bs,bk,rfl,rfl⟩
  obtain ⟨L,hLd⟩: ∃L,(piecesA 1 s0).map mkS=L:=⟨_,rfl⟩
  have hLL:L.length<=1000000:=by
   have h:=z_jy 1 _ s0 (Nat.le_refl _)
   rw [<-hLd,List.length_map]
   omega
  refine z_aB (α:=ByteArray) (ι:=List UInt8×Option Addr×Nat) (κ:=Unit) g rfl (cv:=[.pointer (some ⟨bs,0,none⟩),.pointer (some ⟨bk,0,none⟩)]) rfl (by kernel_rfl) 3 (Nat.le_refl 3)
   (fun pre i=>pre=L.take pre.length/\unhexA (pre.map (·.data.toList)).flatten=some i.1/\i.1.length<=pre.length) (fun i=>[⟨2,z_al,[.v (.slice i.2.1 i.1.length i.2.2)]⟩,⟨1,z_as,[.v (.int .i64 0)]⟩,⟨0,z_al,[.v (.slice none 0 0)]⟩]) (fun i=>[browF z_ab i.2.1 i.1 i.2.2]) (fun i=>⟨rfl,trivial⟩)
   (fun e pre _=>e= .ret/\unhexA s0=none) (fun _=>[⟨1,z_as,[.v (.int .i64 5)]⟩,⟨0,z_al,[.v (.slice none 0 0)]⟩]) (fun _=>[]) (fun _=>trivial)
   [bkF bs z_ah [.string (mkS s0)],bkF bk z_ge [.int .i64 2]] [] [] ⟨rfl,rfl,trivial⟩ (fun g h=>by cases h) ([],none,0) ⟨rfl,rfl,Nat.le_refl _⟩
   (fun β w hs=>⟨β,Agr.refl _ _,(hs.nilRow z_ab 1).perm [1,2,0]⟩) (insS L)
   (fun xs Fs'=>xs=L/\Fs'=[]) (fun _ Fs'=>Fs'=[])
   (fun l w f0 R J Jx hJ0 hJo hRo hY hm=>by
    have h:=z_tT l w bs bk 1 s0 f0 R J Jx 2 rfl (by decide) (by omega) hJ0 hJo hRo (by rw [hLd];exact hY) hm
    rw [hLd] at h
    exact h) ?_ ?_ ?_
  ·rintro ⟨out,A,c⟩ pre x args X W S' lb bs' pn pn' hbs ⟨hpre,hun,hlen⟩ ⟨rfl,rfl,hx⟩
   obtain ⟨cs,hcs,rfl⟩: ∃cs,(piecesA 1 s0)[pre.length]?=some cs/\x=mkS cs:=by
    rw [<-hLd,List.getElem?_map] at hx
    obtain ⟨cs,h1,h2⟩:=Option.map_eq_some_iff.1 hx
    exact ⟨cs,h1,h2.symm⟩
   obtain ⟨p1,p2,p3⟩:=z_kT 1 _ _ _ hcs
   have hpf:(pre.map (·.data.toList)).flatten=s0.take (2*pre.length):=by
    conv=>lhs;rw [hpre]
    rw [<-hLd,<-List.map_take,List.map_map,show ((fun b:ByteArray=>b.data.toList)∘mkS)=id from funext fun l=>by simp [mkS],List.map_id]
    exact p3
   simp only at hun hlen
   have hun0:=hun
   rw [hpf] at hun
   have hcl:cs.length=2:=by rw [p1,List.length_take,List.length_drop];omega
   obtain ⟨ca,cb,rfl⟩: ∃a b,cs=[a,b]:=by
    match cs,hcl with
    | [a,b],_=>exact ⟨a,b,rfl⟩
   have hdm:(mkS [ca,cb]).data.toList=[ca,cb]:=by simp [mkS]
   have hcz:(mkS [ca,cb]).size=2:=rfl
   have hs0:s0=s0.take (2*pre.length)++ca::cb::(s0.drop (2*pre.length)).drop 2:=by
    have h1:[ca,cb]++(s0.drop (2*pre.length)).drop 2=s0.drop (2*pre.length):=by
     rw [p1];exact List.take_append_drop _ _
    have h2:=List.take_append_drop (2*pre.length) s0
    rw [<-h1] at h2
    exact h2.symm
   refine ⟨_,rfl,?_⟩
   intro b1
   intro b2
   intro q1
   intro q2
   refine z_ai (ι:=Nat×Nat) 3 (fun j=>[(2,.c (.p 0 0)),(3,.c (.p 1 0)),(4,.c (.p 2 0)),(6,.c (.v (.int .i64 (j.2:Int)))),(18,.c (.v (.slice (some ⟨b1,0,none⟩) (mkS [ca,cb]).size b2))),(19,.c (.v (.int .i64 ((mkS [ca,cb]).size:Int)))),(20,.c (.v (.int .i64 (j.1:Int))))])
    (fun _=>[⟨2,z_al,[.v (.slice A out.length c)]⟩,⟨1,z_as,[.v (.int .i64 0)]⟩,⟨0,z_al,[.v (.slice none 0 0)]⟩]) (fun _=>[rdoF 1 (some ⟨b1,0,none⟩) (mkS [ca,cb]).size ((mkS [ca,cb]).data.toList.map byte),browF z_ab A out c])
    (fun j=>(j.1=0/\j.2=0)\/(j.1=1/\digA ca=some j.2)\/(j.1=2/\ ∃x y,digA ca=some x/\digA cb=some y/\j.2=x*16+y)) (fun j=>2 - j.1) (0,0) (.inl ⟨rfl,rfl⟩) (Ent.mk' ⟨rfl,rfl,rfl,rfl,rfl,rfl,rfl,trivial⟩ rfl (fun β w' hs=>hs.perm [0,2])) (z_bs g) ?_
   rintro ⟨j,N⟩ hj
   simp only at hj
   have hbad:digA ca=none\/digA cb=none->unhexA s0=none:=fun h=>by
    rw [hs0]
    exact z_g5 ca cb _ _ (by rw [List.length_take];omega) h
   refine BIf.dec (fun hlt=>?_) (fun hge=>?_)
   ·have hlt0:(j:Int)<((mkS [ca,cb]).size:Int):=hlt
    obtain ⟨y,hy,hyb⟩: ∃y,[ca,cb][j]?=some y/\(j=0/\y=ca/\N=0\/j=1/\y=cb/\digA ca=some N):=by
     rcases hj with ⟨h1,h2⟩ | ⟨h1,h2⟩ | ⟨h1,_⟩
     ·exact ⟨ca,by rw [h1];rfl,.inl ⟨h1,rfl,h2⟩⟩
     ·exact ⟨cb,by rw [h1];rfl,.inr ⟨h1,rfl,h2⟩⟩
     ·omega
    refine ⟨_,j,rfl,rfl,by omega,?_⟩
    refine ⟨byte y,fun β w' hs=>Rd.cell1 (show Rd 1 (some ⟨b1,0,none⟩) (mkS [ca,cb]).size ((mkS [ca,cb]).data.toList.map byte) w' from hs.get 0 rfl) (by rw [hdm,List.getElem?_map,hy];rfl),?_⟩
    refine z_af (fun β w' hs=>z_tD w' y) ?_
    unfold digV
    cases hdy:digA y with
    | none=>
     refine ⟨(),⟨rfl,hbad ?_⟩,Ent.mk' trivial rfl (fun β w hs=>((hs.keepB (List.sublist_cons_self _ _)).perm []).lower)⟩
     rcases hyb with ⟨_,q,_⟩ | ⟨_,q,_⟩
     ·exact .inl (by rw [<-q];exact hdy)
     ·exact .inr (by rw [<-q];exact hdy)
    | some v=>
     have hv:=z_jq hdy
     have hN16:N<16:=by
      rcases hyb with ⟨_,_,q⟩ | ⟨_,_,q⟩
      ·omega
      ·exact z_jq q
     refine ⟨by first | decide | omega,((N*16:Nat):Int),?_,?_⟩
     ·rw [show min (4:Int).toNat IntKind.i64.bits=4 from rfl,wrap_i64 (by omega) (by omega)];omega
     refine ⟨((N*16+v:Nat):Int),z_uJ (by omega) hv,?_⟩
     refine ⟨((j+1:Nat):Int),by rw [wrap_i64 (by omega) (by omega)];rfl,?_⟩
     refine ⟨(j+1,N*16+v),?_,by show 2 - (j+1)<2 - j;omega,Ent.same ⟨rfl,rfl,rfl,rfl,rfl,rfl,rfl,trivial⟩ rfl⟩
     rcases hyb with ⟨q1,q2,q3⟩ | ⟨q1,q2,q3⟩
     ·exact .inr (.inl ⟨by show j+1=1;omega,by show digA ca=some (N*16+v);rw [<-q2,hdy,q3,Nat.zero_mul,Nat.zero_add]⟩)
     ·exact .inr (.inr ⟨by show j+1=2;omega,N,v,q3,by rw [<-q2];exact hdy,rfl⟩)
   ·have hge0: ¬(j:Int)<((mkS [ca,cb]).size:Int):=hge
    obtain ⟨x,y,hx1,hy1,hN⟩: ∃x y,digA ca=some x/\digA cb=some y/\N=x*16+y:=by
     rcases hj with ⟨h1,h2⟩ | ⟨h1,h2⟩ | ⟨h1,h⟩
     ·omega
     ·omega
     ·exact h
    have hN8:N<256:=by
     have h1:=z_jq hx1
     have h2:=z_jq hy1
     omega
    refine ⟨((u8n N).toNat:Int),z_fy _,?_⟩
    intro b3
    obtain ⟨l2,hl2⟩: ∃l2,l2=out++[u8n N]:=⟨_,rfl⟩
    have hl2l:out.length+1=l2.length:=by rw [hl2,List.length_append];rfl
    have hpl:pre.length<L.length:=by
     rcases Nat.lt_or_ge pre.length L.length with h | h
     ·exact h
     ·rw [List.getElem?_eq_none h] at hx;cases hx
    refine ⟨2,out.length,l2.length,_,[u8n N].map byte,l2.map byte,rfl,fun β w' hs=>z_am (hs.get 0 rfl),z_aq _,hl2l,by rw [hl2,List.map_append],by rw [z_ag];omega,by show l2.length*1<=_;omega,?_⟩
    intro A2 c2 r1 r2 r3
    refine ⟨(l2,A2,c2),⟨?_,?_,?_⟩,Ent.mk' trivial rfl (fun β w' hs=>hs.perm [2])⟩
    ·show pre++[mkS [ca,cb]]=L.take (pre++[mkS [ca,cb]]).length
     rw [List.length_append,List.length_singleton,List.take_add_one,hx,<-hpre]
     rfl
    ·show unhexA ((pre++[mkS [ca,cb]]).map (·.data.toList)).flatten=some l2
     rw [List.map_append,List.map_singleton,hdm,List.flatten_append,z_jn _ _ (by rw [hpf,List.length_take];omega),hun0,hl2]
     simp [unhexA,hx1,hy1,hN]
    ·show l2.length<=(pre++[mkS [ca,cb]]).length
     rw [List.length_append,List.length_singleton]
     omega
  ·rintro xs ⟨out,A,c⟩ Fs ⟨hpre,hun,hlen⟩ ⟨rfl,rfl⟩
   have hfl:(xs.map (·.data.toList)).flatten=s0:=by
    rw [<-hLd,List.map_map,show ((fun b:ByteArray=>b.data.toList)∘mkS)=id from funext fun l=>by simp [mkS],List.map_id,z_hS 1 _ _ (Nat.le_refl _)]
   rw [hfl] at hun
   intro β w' hs
   have hcap:out.length<=c:=z_gZ (show (browF z_ab A out c).p w' from hs.get 0 rfl)
   exact (hs.keepB (List.nil_sublist _)).fin [0] ⟨A,out,c,0,rfl,.inl ⟨rfl,hun⟩,hcap,rfl⟩
  ·rintro e pre ⟨⟩ Fs ⟨rfl,hno⟩ rfl
   intro β w' hs
   exact ((hs.keepB (List.nil_sublist _)).nilRow z_ab 1).fin [0] ⟨none,[],0,5,rfl,.inr ⟨by decide,hno⟩,Nat.le_refl _,rfl⟩
 ·have h00: ¬(((mkS s0).size%2:Nat):Int)=0:=h0
  intro β w' hs
  exact ((hs.keepB (List.nil_sublist _)).nilRow z_ab 1).fin [0] ⟨none,[],0,2,rfl,.inr ⟨by decide,z_js s0 (by omega)⟩,Nat.le_refl _,rfl⟩
end Go.Proofs.YtloeaiafphkjnaaGreatDoor.Sx
