/- Texts joined: Rl1, B6L, B6V, B6G, B6D, Rk1, B6W, B6E, SxAs, StepG, Bk2, Box1, Box2, Join, Bk3, SumJ, HmL, Rep, Rep2, Hm1, Bk4, Bk5, Srt, Bk6, Bk7, Bk8, Bk9, Xor, Hm2, Hm3, Hsh, Hsh2, Hsh3, Mac, Pie, Pie2, Str, Trn, Turn, Ak5, Ak6, BxP, Rf5, Rt1, Rt2, Rt3, Rt4, Rt5, Tl2, Tl3, TlG, Flip, Tl1, Tl4, Tl5, LenX, Tl7, Tl8, Tl10, Rk2, B6U, Rk3, Han, Rf6, Kr1, Kr2, Kr3, SxIter, KyJ, CoJ, Kr4, Rk4, Kr5, Rk5, Rk6, Rk7, Rk9, Rka, Kr6, Kr7, Kr8, Kr9, Ks1, Ks2, KsL, Tl11, Ks3, Ks4, Ks5, SxClr, Ks6, Ks7, Ks8, Ks9, Ka1, Rk8, RHx, Rkb, Key2, Rl2, Rm7, Bl2, Rl4, KyI, ColI, SrU, SrU2, FmU, Dec, Rl5, Rl7, SxTriL, SxGo, Rm3, Rm8, Rv1, Tk3, Tkb, RgL. -/
import Derived.Test.YtloeaiafphkjnaaGreatDoorMRollTurned4
import Derived.Test.YtloeaiafphkjnaaGreatDoorMRollTurned3
import Derived.Test.YtloeaiafphkjnaaGreatDoorMRollTurned2
import Derived.Lib.Join
import Derived.Lib.SlParts
import Derived.Lib.SlFresh
import Derived.Lib.MakeNoZero
import Derived.Laws.Externs
import Derived.Sort.OwnSortedInts
import Derived.Maps.RangeRun
import Derived.Below
set_option linter.unusedVariables false
set_option linter.unusedSimpArgs false
namespace Go.Proofs.YtloeaiafphkjnaaGreatDoor.Sx
open Go
attribute [local irreducible] Calls
theorem mkSo (l:List UInt8):(mkS l).data.toList=l:=by simp [mkS]
theorem mkS1 {a b:List UInt8} (h:mkS a=mkS b):a=b:=by
 have:=congrArg (fun s:ByteArray=>s.data.toList) h
 simpa only [mkSo] using this
def att (p:List UInt8):List (List UInt8)->List (List UInt8)
 | []=>[p]
 | h::t=>(p++h)::t
def splL (d:UInt8):List UInt8->List (List UInt8)
 | []=>[[]]
 | c::r=>if c=d then []::splL d r else att [c] (splL d r)
theorem z_fI (d c:UInt8) (r:List UInt8):splL d (c::r)=if c=d then []::splL d r else att [c] (splL d r):=rfl
theorem z_yr (p:List UInt8) (L:List (List UInt8)):att p L≠[]:=by cases L<;>simp [att]
theorem z_hv (d:UInt8) (s:List UInt8):splL d s≠[]:=by
 cases s with
 | nil=>simp [splL]
 | cons c r=>
  unfold splL
  split
  ·simp
  ·exact z_yr _ _
theorem z_w3 (p q:List UInt8) (L:List (List UInt8)):att p (att q L)=att (p++q) L:=by cases L<;>simp [att]
theorem z_sZ {L:List (List UInt8)} (h:L≠[]):att [] L=L:=by cases L with
 | nil=>exact absurd rfl h
 | cons a t=>rfl
theorem z_bn {d:UInt8}: ∀ {l:List UInt8},d∉l->splL d l=[l]
 | [],_=>rfl
 | c::r,h=>by
  have ih:=z_bn (l:=r) (fun q=>h (List.mem_cons_of_mem _ q))
  rw [z_fI,if_neg (fun e=>h (by rw [e];exact List.mem_cons_self)),ih]
  rfl
theorem z_jp {d:UInt8} (r:List UInt8): ∀ {l:List UInt8},d∉l->splL d (l++d::r)=l::splL d r
 | [],_=>by show splL d (d::r)=_;rw [z_fI,if_pos rfl]
 | c::t,h=>by
  have ih:=z_jp r (l:=t) (fun q=>h (List.mem_cons_of_mem _ q))
  show splL d (c::(t++d::r))=_
  rw [z_fI,if_neg (fun e=>h (by rw [e];exact List.mem_cons_self)),ih]
  rfl
def lnL (s:List UInt8):List (List UInt8):=if (splL 10 s).getLast?=some [] then (splL 10 s).dropLast else splL 10 s
theorem z_tz:lnL []=[]:=rfl
theorem z_v4 {l:List UInt8} (h:(10:UInt8)∉l) (h0:l≠[]):lnL l=[l]:=by
 unfold lnL
 rw [z_bn h,if_neg (fun e=>h0 (by simpa using e))]
theorem z_sM {l:List UInt8} (r:List UInt8) (h:(10:UInt8)∉l):lnL (l++10::r)=l::lnL r:=by
 unfold lnL
 rw [z_jp r h]
 obtain ⟨a,t,e⟩: ∃a t,splL 10 r=a::t:=by
  cases q:splL 10 r with
  | nil=>exact absurd q (z_hv _ _)
  | cons a t=>exact ⟨a,t,rfl⟩
 rw [e]
 rw [show (l::a::t).getLast?=(a::t).getLast? from rfl]
 split
 ·rfl
 ·rfl
def hdA (d:UInt8):List UInt8->List UInt8
 | []=>[]
 | c::r=>if c=d then [] else c::hdA d r
def hdB (d:UInt8):List UInt8->List UInt8
 | []=>[]
 | c::r=>if c=d then r else hdB d r
theorem z_mr (d c:UInt8) (r:List UInt8):hdA d (c::r)=if c=d then [] else c::hdA d r:=rfl
theorem z_mw (d c:UInt8) (r:List UInt8):hdB d (c::r)=if c=d then r else hdB d r:=rfl
theorem z_kv (d:UInt8): ∀s:List UInt8,d∉hdA d s
 | []=>by simp [hdA]
 | c::r=>by
  rw [z_mr]
  by_cases h:c=d
  ·rw [if_pos h];exact fun q=>by cases q
  ·rw [if_neg h]
   intro q
   rcases List.mem_cons.1 q with q | q
   ·exact h q.symm
   ·exact z_kv d r q
theorem z_ip {d:UInt8}: ∀ {s:List UInt8},d∈s->s=hdA d s++d::hdB d s
 | [],h=>by cases h
 | c::r,h=>by
  rw [z_mr,z_mw]
  by_cases e:c=d
  ·rw [if_pos e,if_pos e,e];rfl
  ·rw [if_neg e,if_neg e]
   have hr:d∈r:=(List.mem_cons.1 h).elim (fun q=>absurd q.symm e) id
   exact congrArg (c:: ·) (z_ip hr)
theorem z_mV {d:UInt8}: ∀ {s:List UInt8},d∉s->hdA d s=s/\hdB d s=[]
 | [],_=>⟨rfl,rfl⟩
 | c::r,h=>by
  have hc: ¬c=d:=fun e=>h (by rw [e];exact List.mem_cons_self)
  obtain ⟨e1,e2⟩:=z_mV (s:=r) fun q=>h (List.mem_cons_of_mem _ q)
  rw [z_mr,z_mw,if_neg hc,if_neg hc,e1,e2]
  exact ⟨rfl,rfl⟩
theorem z_q4 {s:List UInt8} (h0:s≠[]):lnL s=hdA 10 s::lnL (hdB 10 s):=by
 by_cases h:(10:UInt8)∈s
 ·conv=>lhs;rw [z_ip h]
  rw [z_sM _ (z_kv _ _)]
 ·obtain ⟨e1,e2⟩:=z_mV h
  rw [z_v4 h h0,e1,e2]
  rfl
theorem z_qP (d:UInt8): ∀s:List UInt8,_root_.Go.Lib.index s [d]=if d∈s then ((hdA d s).length:Int) else -1
 | []=>by rw [if_neg (fun h=>by cases h)];rfl
 | c::r=>by
  have ih:=z_qP d r
  unfold _root_.Go.Lib.index
  rw [z_mr]
  by_cases hc:c=d
  ·rw [if_pos (by simp [hc]),if_pos (by rw [hc];exact List.mem_cons_self),if_pos hc]
   rfl
  ·rw [if_neg (by simpa using fun h=>hc h.symm),if_neg hc,ih]
   by_cases hr:d∈r
   ·rw [if_pos hr,if_pos (List.mem_cons_of_mem _ hr),if_neg (by simp)]
    simp
   ·rw [if_neg hr,if_neg (fun q=>(List.mem_cons.1 q).elim (fun q=>hc q.symm) hr)]
    rfl
theorem z_xc (d:UInt8) (s:List UInt8):_root_.Go.Lib.cut s [d]=(hdA d s,hdB d s,decide (d∈s)):=by
 unfold _root_.Go.Lib.cut
 rw [z_qP]
 by_cases h:d∈s
 ·have e:=z_ip h
  rw [if_pos h,if_pos (Int.natCast_nonneg _),Int.toNat_natCast]
  rw [show decide (d∈s)=true from by simpa using h]
  have hl: ∀a b:List UInt8,s=a++d::b->(s.take a.length,s.drop (a.length+[d].length),true)=(a,b,true):=by
   intro a b e
   subst e
   rw [List.take_left,<-List.drop_drop,List.drop_left]
   rfl
  exact hl _ _ e
 ·obtain ⟨e1,e2⟩:=z_mV h
  rw [if_neg h,if_neg (by decide),e1,e2,show decide (d∈s)=false from by simpa using h]
end Go.Proofs.YtloeaiafphkjnaaGreatDoor.Sx
namespace Go.Proofs.YtloeaiafphkjnaaGreatDoor.Sx
open Go
def e62:Bool->UInt8
 | true=>45
 | false=>43
def e63:Bool->UInt8
 | true=>95
 | false=>47
def valA (url:Bool) (c:UInt8):Option Nat:=
 if 65<=c.toNat/\c.toNat<=90 then some (c.toNat - 65) else if 97<=c.toNat/\c.toNat<=122 then some (c.toNat - 97+26) else if 48<=c.toNat/\c.toNat<=57 then some (c.toNat - 48+52)
 else if c=e62 url then some 62 else if c=e63 url then some 63 else none
theorem z_qK {url:Bool} {c:UInt8} {n:Nat} (h:valA url c=some n):n<64:=by
 have key: ∀u:Bool,∀m:_root_.Fin 256,((valA u (UInt8.ofNat m.1)).all fun k=>decide (k<64))=true:=by decide+kernel
 have h2:=key url ⟨c.toNat,c.toNat_lt⟩
 simp only [UInt8.ofNat_toNat,h,Option.all_some,decide_eq_true_eq] at h2
 exact h2
def letA (url:Bool) (n:Nat):UInt8:=
 if n<26 then UInt8.ofNat (65+n) else if n<52 then UInt8.ofNat (97+n - 26) else if n<62 then UInt8.ofNat (48+n - 52) else if n=62 then e62 url else e63 url
theorem z_tZ (url:Bool) (c:UInt8):valA url c=(List.range 64).find? (fun n=>decide (letA url n=c)):=by
 have key: ∀u:Bool,∀n:_root_.Fin 256,valA u (UInt8.ofNat n.1)=(List.range 64).find? (fun k=>decide (letA u k=UInt8.ofNat n.1)):=by decide+kernel
 have h:=key url ⟨c.toNat,c.toNat_lt⟩
 simpa using h
def u8n (n:Nat):UInt8:=UInt8.ofNat n
def decG:List Nat->Option (List UInt8)
 | a::b::c::d::r=>(decG r).map fun l=>u8n (a*4+b/16)::u8n (b%16*16+c/4)::u8n (c%4*64+d)::l
 | [a,b,c]=>if c%4=0 then some [u8n (a*4+b/16),u8n (b%16*16+c/4)] else none
 | [a,b]=>if b%16=0 then some [u8n (a*4+b/16)] else none
 | [_]=>none
 | []=>some []
def rbits (v:Nat):List UInt8:=[u8n (v/32%2),u8n (v/16%2),u8n (v/8%2),u8n (v/4%2),u8n (v/2%2),u8n (v%2)]
def fold8 (l:List UInt8):UInt8:=l.foldl (fun b x=>b*2+x) 0
def chop:List UInt8->List UInt8×List UInt8
 | a::b::c::d::e::f::g::h::r=>(fold8 [a,b,c,d,e,f,g,h]::(chop r).1,(chop r).2)
 | l=>([],l)
def refG (vs:List Nat):Option (List UInt8):=if (chop (vs.flatMap rbits)).2.all (fun x=>decide (x=0)) then some (chop (vs.flatMap rbits)).1 else none
theorem by1 {a b:Nat} (ha:a<64) (hb:b<64):fold8 (rbits a++(rbits b).take 2)=u8n (a*4+b/16):=by
 have key: ∀x y:_root_.Fin 64,fold8 (rbits x.1++(rbits y.1).take 2)=u8n (x.1*4+y.1/16):=by decide+kernel
 exact key ⟨a,ha⟩ ⟨b,hb⟩
theorem by2 {a b:Nat} (ha:a<64) (hb:b<64):fold8 ((rbits a).drop 2++(rbits b).take 4)=u8n (a%16*16+b/4):=by
 have key: ∀x y:_root_.Fin 64,fold8 ((rbits x.1).drop 2++(rbits y.1).take 4)=u8n (x.1%16*16+y.1/4):=by decide+kernel
 exact key ⟨a,ha⟩ ⟨b,hb⟩
theorem by3 {a b:Nat} (ha:a<64) (hb:b<64):fold8 ((rbits a).drop 4++rbits b)=u8n (a%4*64+b):=by
 have key: ∀x y:_root_.Fin 64,fold8 ((rbits x.1).drop 4++rbits y.1)=u8n (x.1%4*64+y.1):=by decide+kernel
 exact key ⟨a,ha⟩ ⟨b,hb⟩
theorem le4 {a:Nat} (ha:a<64):((rbits a).drop 2).all (fun x=>decide (x=0))=decide (a%16=0):=by
 have key: ∀x:_root_.Fin 64,((rbits x.1).drop 2).all (fun x=>decide (x=0))=decide (x.1%16=0):=by decide+kernel
 exact key ⟨a,ha⟩
theorem le2 {a:Nat} (ha:a<64):((rbits a).drop 4).all (fun x=>decide (x=0))=decide (a%4=0):=by
 have key: ∀x:_root_.Fin 64,((rbits x.1).drop 4).all (fun x=>decide (x=0))=decide (x.1%4=0):=by decide+kernel
 exact key ⟨a,ha⟩
theorem chop8 (l:List UInt8) (h:l.length=8) (r:List UInt8):chop (l++r)=(fold8 l::(chop r).1,(chop r).2):=by
 match l,h with
 | [a,b,c,d,e,f,g,i],_=>rfl
theorem z_tK: ∀(vs:List Nat),(∀v∈vs,v<64)->vs.length%4≠1->refG vs=decG vs
 | [],_,_=>rfl
 | [a],_,h=>absurd rfl h
 | [a,b],hv,_=>by
  have ha:=hv a (by simp)
  have hb:=hv b (by simp)
  have e:([a,b].flatMap rbits)=(rbits a++(rbits b).take 2)++(rbits b).drop 2:=by simp [rbits]
  unfold refG
  rw [e,chop8 _ (by rfl),by1 ha hb]
  have e2:chop ((rbits b).drop 2)=([],(rbits b).drop 2):=rfl
  rw [e2]
  simp only [le4 hb,decG]
  by_cases q:b%16=0<;>simp [q]
 | [a,b,c],hv,_=>by
  have ha:=hv a (by simp)
  have hb:=hv b (by simp)
  have hc:=hv c (by simp)
  have e:([a,b,c].flatMap rbits)=(rbits a++(rbits b).take 2)++(((rbits b).drop 2++(rbits c).take 4)++(rbits c).drop 4):=by simp [rbits]
  unfold refG
  rw [e,chop8 _ (by rfl),by1 ha hb,chop8 _ (by rfl),by2 hb hc]
  have e2:chop ((rbits c).drop 4)=([],(rbits c).drop 4):=rfl
  rw [e2]
  simp only [le2 hc,decG]
  by_cases q:c%4=0<;>simp [q]
 | a::b::c::d::r,hv,h=>by
  have ha:=hv a (by simp)
  have hb:=hv b (by simp)
  have hc:=hv c (by simp)
  have hd:=hv d (by simp)
  have ih:=z_tK r (fun v hv'=>hv v (by simp [hv'])) (by simp only [List.length_cons] at h;omega)
  have e:((a::b::c::d::r).flatMap rbits)=(rbits a++(rbits b).take 2)++(((rbits b).drop 2++(rbits c).take 4)++(((rbits c).drop 4++rbits d)++r.flatMap rbits)):=by simp [rbits]
  unfold refG at ih ⊢
  rw [e,chop8 _ (by rfl),by1 ha hb,chop8 _ (by rfl),by2 hb hc,chop8 _ (by rfl),by3 hc hd]
  simp only [decG,<-ih]
  by_cases q:(chop (r.flatMap rbits)).2.all (fun x=>decide (x=0))=true
  ·rw [if_pos q,if_pos q];rfl
  ·rw [if_neg q,if_neg q];rfl
def valsA (url:Bool):List UInt8->Option (List Nat)
 | []=>some []
 | c::r=>match valA url c,valsA url r with
  | some v,some vs=>some (v::vs)
  | _,_=>none
def decS (url:Bool) (s:List UInt8):Option (List UInt8):=(valsA url s).bind decG
def unpad (s:List UInt8):List UInt8:=if s.getLast?=some 61 then (if s.dropLast.getLast?=some 61 then s.dropLast.dropLast else s.dropLast) else s
def decP (s:List UInt8):Option (List UInt8):=if s.length%4≠0 then none else if (unpad s).length%4=1 then none else decS false (unpad s)
def decU (s:List UInt8):Option (List UInt8):=if s.length%4=1 then none else decS true s
def digA (c:UInt8):Option Nat:=if 48<=c.toNat/\c.toNat<=57 then some (c.toNat - 48) else if 97<=c.toNat/\c.toNat<=102 then some (c.toNat - 97+10) else none
def unhexA:List UInt8->Option (List UInt8)
 | a::b::r=>match digA a,digA b,unhexA r with
  | some x,some y,some l=>some (u8n (x*16+y)::l)
  | _,_,_=>none
 | [_]=>none
 | []=>some []
def runC (c:UInt8):Bool:=decide (65<=c.toNat/\c.toNat<=90) || (decide (97<=c.toNat/\c.toNat<=122) || (decide (48<=c.toNat/\c.toNat<=57) || (decide (c=43) || (decide (c=47) || (decide (c=45) || decide (c=95))))))
end Go.Proofs.YtloeaiafphkjnaaGreatDoor.Sx
namespace Go.Proofs.YtloeaiafphkjnaaGreatDoor.Sx
open Go
attribute [local irreducible] Calls
def valV (url:Bool) (c:UInt8):Int:=match valA url c with | some v=>(v:Int) | none=> -1
structure Alph (s:ByteArray) (url:Bool):Prop where
 len:s.size=64
 l62:s.data.toList[62]?=some (e62 url)
 l63:s.data.toList[63]?=some (e63 url)
theorem z_xo (w:World) (s:ByteArray) (url:Bool) (c:UInt8) (ha:Alph s url):Pu Tryz.prog z_mM #[.string s,.int .u8 c.toNat] w (.int .i64 (valV url c)):=by
 have g:=z_nR w (Un [])
 have hc:=c.toNat_lt
 refine z_ac (cx:=z_lN w (Un [])) g z_qx rfl rfl (β:=Va.z) [.c (.v (.string s)),.c (.v (.int .u8 c.toNat))] 0 [] [] rfl rfl (Sat.start rfl) ?_
 obtain ⟨n,hn⟩: ∃n:Int,(c.toNat:Int)=n:=⟨_,rfl⟩
 have hv:valV url c=if 65<=n/\n<=90 then n - 65 else if 97<=n/\n<=122 then n - 97+26 else if 48<=n/\n<=57 then n - 48+52 else if c=e62 url then 62 else if c=e63 url then 63 else -1:=by
  unfold valV valA
  have e1:(65<=n/\n<=90)=(65<=c.toNat/\c.toNat<=90):=propext (by omega)
  have e2:(97<=n/\n<=122)=(97<=c.toNat/\c.toNat<=122):=propext (by omega)
  have e3:(48<=n/\n<=57)=(48<=c.toNat/\c.toNat<=57):=propext (by omega)
  simp only [e1,e2,e3]
  by_cases h1:65<=c.toNat/\c.toNat<=90
  ·simp only [if_pos h1];omega
  ·simp only [if_neg h1]
   by_cases h2:97<=c.toNat/\c.toNat<=122
   ·simp only [if_pos h2];omega
   ·simp only [if_neg h2]
    by_cases h3:48<=c.toNat/\c.toNat<=57
    ·simp only [if_pos h3];omega
    ·simp only [if_neg h3]
     by_cases h4:c=e62 url
     ·simp only [if_pos h4];rfl
     ·simp only [if_neg h4]
      by_cases h5:c=e63 url
      ·simp only [if_pos h5];rfl
      ·simp only [if_neg h5]
 rw [hn]
 generalize valV url c=v at hv ⊢
 have wr: ∀x:Int,0<=x->x<256->IntKind.u8.wrap x=x:=fun x h1 h2=>by rw [wrap_u8];omega
 by_cases h1:65<=n/\n<=90
 ·rw [if_pos h1] at hv
  refine BIf.dec (fun _=>?_) (fun h=>absurd (show 65<=n by omega) h)
  refine BIf.dec (fun _=>?_) (fun h=>absurd (show n<=90 by omega) h)
  refine ⟨n - 65,by rw [IntKind.wrap_u8];omega,?_⟩
  refine ⟨_,wrap_i64 (by omega) (by omega),?_⟩
  intro β w' hs
  exact hs.fin [] ⟨by rw [hv];rfl,rfl⟩
 rw [if_neg h1] at hv
 by_cases h2:97<=n/\n<=122
 ·rw [if_pos h2] at hv
  refine BIf.dec (fun _=>?_) (fun h=>absurd (show 65<=n by omega) h)
  refine BIf.dec (fun h=>absurd h (show¬(n<=90) by omega)) (fun _=>?_)
  refine BIf.dec (fun _=>?_) (fun h=>absurd (show 97<=n by omega) h)
  refine BIf.dec (fun _=>?_) (fun h=>absurd (show n<=122 by omega) h)
  refine ⟨n - 97,by rw [IntKind.wrap_u8];omega,?_⟩
  refine ⟨_,wrap_i64 (by omega) (by omega),?_⟩
  refine ⟨_,wrap_i64 (by omega) (by omega),?_⟩
  intro β w' hs
  exact hs.fin [] ⟨by rw [hv];rfl,rfl⟩
 rw [if_neg h2] at hv
 by_cases h3:48<=n/\n<=57
 ·rw [if_pos h3] at hv
  refine BIf.dec (fun h=>absurd h (show¬(65<=n) by omega)) (fun _=>?_)
  refine BIf.dec (fun h=>absurd h (show¬(97<=n) by omega)) (fun _=>?_)
  refine BIf.dec (fun _=>?_) (fun h=>absurd (show 48<=n by omega) h)
  refine BIf.dec (fun _=>?_) (fun h=>absurd (show n<=57 by omega) h)
  refine ⟨n - 48,by rw [IntKind.wrap_u8];omega,?_⟩
  refine ⟨_,wrap_i64 (by omega) (by omega),?_⟩
  refine ⟨_,wrap_i64 (by omega) (by omega),?_⟩
  intro β w' hs
  exact hs.fin [] ⟨by rw [hv];rfl,rfl⟩
 rw [if_neg h3] at hv
 by_cases k1:n<48
 ·skip
  refine BIf.dec (fun h=>absurd h (show¬(65<=n) by omega)) (fun _=>?_)
  refine BIf.dec (fun h=>absurd h (show¬(97<=n) by omega)) (fun _=>?_)
  refine BIf.dec (fun h=>absurd h (show¬(48<=n) by omega)) (fun _=>?_)
  refine ⟨62,e62 url,rfl,ha.l62,?_⟩
  refine BIf.dec (fun q=>?_) (fun q=>?_)
  ·have q0:n=((e62 url).toNat:Int):=q
   have qc:c=e62 url:=UInt8.toNat_inj.1 (by omega)
   intro β w' hs
   exact hs.fin [] ⟨by rw [hv,if_pos qc];rfl,rfl⟩
  have q0: ¬n=((e62 url).toNat:Int):=q
  have qc: ¬c=e62 url:=fun e=>q0 (by rw [<-hn,e])
  refine ⟨63,e63 url,rfl,ha.l63,?_⟩
  refine BIf.dec (fun r=>?_) (fun r=>?_)
  ·have r0:n=((e63 url).toNat:Int):=r
   have rc:c=e63 url:=UInt8.toNat_inj.1 (by omega)
   intro β w' hs
   exact hs.fin [] ⟨by rw [hv,if_neg qc,if_pos rc];rfl,rfl⟩
  have r0: ¬n=((e63 url).toNat:Int):=r
  have rc: ¬c=e63 url:=fun e=>r0 (by rw [<-hn,e])
  intro β w' hs
  exact hs.fin [] ⟨by rw [hv,if_neg qc,if_neg rc];rfl,rfl⟩
 by_cases k2:n<65
 ·skip
  refine BIf.dec (fun h=>absurd h (show¬(65<=n) by omega)) (fun _=>?_)
  refine BIf.dec (fun h=>absurd h (show¬(97<=n) by omega)) (fun _=>?_)
  refine BIf.dec (fun _=>?_) (fun h=>absurd (show 48<=n by omega) h)
  refine BIf.dec (fun h=>absurd h (show¬(n<=57) by omega)) (fun _=>?_)
  refine ⟨62,e62 url,rfl,ha.l62,?_⟩
  refine BIf.dec (fun q=>?_) (fun q=>?_)
  ·have q0:n=((e62 url).toNat:Int):=q
   have qc:c=e62 url:=UInt8.toNat_inj.1 (by omega)
   intro β w' hs
   exact hs.fin [] ⟨by rw [hv,if_pos qc];rfl,rfl⟩
  have q0: ¬n=((e62 url).toNat:Int):=q
  have qc: ¬c=e62 url:=fun e=>q0 (by rw [<-hn,e])
  refine ⟨63,e63 url,rfl,ha.l63,?_⟩
  refine BIf.dec (fun r=>?_) (fun r=>?_)
  ·have r0:n=((e63 url).toNat:Int):=r
   have rc:c=e63 url:=UInt8.toNat_inj.1 (by omega)
   intro β w' hs
   exact hs.fin [] ⟨by rw [hv,if_neg qc,if_pos rc];rfl,rfl⟩
  have r0: ¬n=((e63 url).toNat:Int):=r
  have rc: ¬c=e63 url:=fun e=>r0 (by rw [<-hn,e])
  intro β w' hs
  exact hs.fin [] ⟨by rw [hv,if_neg qc,if_neg rc];rfl,rfl⟩
 by_cases k3:n<97
 ·skip
  refine BIf.dec (fun _=>?_) (fun h=>absurd (show 65<=n by omega) h)
  refine BIf.dec (fun h=>absurd h (show¬(n<=90) by omega)) (fun _=>?_)
  refine BIf.dec (fun h=>absurd h (show¬(97<=n) by omega)) (fun _=>?_)
  refine BIf.dec (fun _=>?_) (fun h=>absurd (show 48<=n by omega) h)
  refine BIf.dec (fun h=>absurd h (show¬(n<=57) by omega)) (fun _=>?_)
  refine ⟨62,e62 url,rfl,ha.l62,?_⟩
  refine BIf.dec (fun q=>?_) (fun q=>?_)
  ·have q0:n=((e62 url).toNat:Int):=q
   have qc:c=e62 url:=UInt8.toNat_inj.1 (by omega)
   intro β w' hs
   exact hs.fin [] ⟨by rw [hv,if_pos qc];rfl,rfl⟩
  have q0: ¬n=((e62 url).toNat:Int):=q
  have qc: ¬c=e62 url:=fun e=>q0 (by rw [<-hn,e])
  refine ⟨63,e63 url,rfl,ha.l63,?_⟩
  refine BIf.dec (fun r=>?_) (fun r=>?_)
  ·have r0:n=((e63 url).toNat:Int):=r
   have rc:c=e63 url:=UInt8.toNat_inj.1 (by omega)
   intro β w' hs
   exact hs.fin [] ⟨by rw [hv,if_neg qc,if_pos rc];rfl,rfl⟩
  have r0: ¬n=((e63 url).toNat:Int):=r
  have rc: ¬c=e63 url:=fun e=>r0 (by rw [<-hn,e])
  intro β w' hs
  exact hs.fin [] ⟨by rw [hv,if_neg qc,if_neg rc];rfl,rfl⟩
 ·skip
  refine BIf.dec (fun _=>?_) (fun h=>absurd (show 65<=n by omega) h)
  refine BIf.dec (fun h=>absurd h (show¬(n<=90) by omega)) (fun _=>?_)
  refine BIf.dec (fun _=>?_) (fun h=>absurd (show 97<=n by omega) h)
  refine BIf.dec (fun h=>absurd h (show¬(n<=122) by omega)) (fun _=>?_)
  refine BIf.dec (fun _=>?_) (fun h=>absurd (show 48<=n by omega) h)
  refine BIf.dec (fun h=>absurd h (show¬(n<=57) by omega)) (fun _=>?_)
  refine ⟨62,e62 url,rfl,ha.l62,?_⟩
  refine BIf.dec (fun q=>?_) (fun q=>?_)
  ·have q0:n=((e62 url).toNat:Int):=q
   have qc:c=e62 url:=UInt8.toNat_inj.1 (by omega)
   intro β w' hs
   exact hs.fin [] ⟨by rw [hv,if_pos qc];rfl,rfl⟩
  have q0: ¬n=((e62 url).toNat:Int):=q
  have qc: ¬c=e62 url:=fun e=>q0 (by rw [<-hn,e])
  refine ⟨63,e63 url,rfl,ha.l63,?_⟩
  refine BIf.dec (fun r=>?_) (fun r=>?_)
  ·have r0:n=((e63 url).toNat:Int):=r
   have rc:c=e63 url:=UInt8.toNat_inj.1 (by omega)
   intro β w' hs
   exact hs.fin [] ⟨by rw [hv,if_neg qc,if_pos rc];rfl,rfl⟩
  have r0: ¬n=((e63 url).toNat:Int):=r
  have rc: ¬c=e63 url:=fun e=>r0 (by rw [<-hn,e])
  intro β w' hs
  exact hs.fin [] ⟨by rw [hv,if_neg qc,if_neg rc];rfl,rfl⟩
def piecesA (k:Nat):List UInt8->List (List UInt8)
 | []=>[]
 | c::r=>(c::r).take (k+1)::piecesA k ((c::r).drop (k+1))
termination_by l=>l.length
decreasing_by simp only [List.length_drop,List.length_cons];omega
theorem z_eb (k:Nat):piecesA k []=[]:=by rw [piecesA]
theorem z_hD (k:Nat) {l:List UInt8} (h:l≠[]):piecesA k l=l.take (k+1)::piecesA k (l.drop (k+1)):=by
 cases l with
 | nil=>exact absurd rfl h
 | cons c r=>rw [piecesA]
theorem z_lc (k:Nat): ∀(m:Nat) (l:List UInt8),l.length<=m->(piecesA k l).length<=l.length
 | 0,l,h=>by
  obtain rfl:l=[]:=List.length_eq_zero_iff.1 (by omega)
  rw [z_eb];exact Nat.zero_le _
 | m+1,l,h=>by
  by_cases hl:l=[]
  ·rw [hl,z_eb];exact Nat.zero_le _
  ·have h0:0<l.length:=List.length_pos_iff.2 hl
   rw [z_hD k hl,List.length_cons]
   have:=z_lc k m (l.drop (k+1)) (by rw [List.length_drop];omega)
   rw [List.length_drop] at this
   omega
theorem z_pe (l:List UInt8) (n:Nat):(mkS l).extract 0 n=mkS (l.take n):=by
 apply ByteArray.ext
 simp [mkS]
theorem z_vh (l:List UInt8) (n:Nat):(mkS l).extract n (mkS l).size=mkS (l.drop n):=by
 apply ByteArray.ext
 simp [mkS,ByteArray.size]
 rw [List.take_of_length_le (by rw [List.length_drop];omega)]
theorem z_je (l:List UInt8):(mkS l).size=l.length:=by simp [mkS,ByteArray.size]
theorem z_wG (s:ByteArray):mkS s.data.toList=s:=by simp [mkS]
def insS (L:List ByteArray) (pre:List ByteArray) (x:ByteArray) (args:Array Value) (X:Fact):Prop:=args= #[.string x]/\X=noF/\L[pre.length]?=some x
def grpEnd (L:List ByteArray) (J Jx:List ByteArray->Fact->Prop) (Fs:List Fact):Prop:=
 ∃f Fs',Fs=f::Fs'/\((∃xs,J xs f/\xs=L/\Fs'=[])\/(∃pre,Jx pre f/\Fs'=[]))
theorem z_wq (l:Nat) (w:World) (bs bk k:Nat) (s0:List UInt8) (f0 R:Fact) (J Jx:List ByteArray->Fact->Prop) (kk:Int) (hkk:((k+1:Nat):Int)=kk) (hk:k<=1000) (hL:s0.length<=1000000) (hJ0:J [] f0) (hJo: ∀pre f,J pre f->f.own=true) (hRo:R.own=false) (hY:Yc Tryz.prog l J Jx R (insS ((piecesA k s0).map mkS)))
  (hm:Mem w (f0::R::[bkF bs z_ag [.string (mkS s0)],bkF bk z_fy [.int .i64 kk]])):
  Con Tryz.prog z_fv #[.func (.yield l) #[] #[],.pointer (some ⟨bs,0,none⟩),.pointer (some ⟨bk,0,none⟩)] w [f0,bkF bs z_ag [.string (mkS s0)],bkF bk z_fy [.int .i64 kk]] (fun _ Fs=>grpEnd ((piecesA k s0).map mkS) J Jx Fs):=by
 have g:=z_ly w (Un [f0,bkF bs z_ag [.string (mkS s0)],bkF bk z_fy [.int .i64 kk]]) [bs,bk]
 have hs0:Sat (z_er w (Un [f0,bkF bs z_ag [.string (mkS s0)],bkF bk z_fy [.int .i64 kk]]) [bs,bk]) (Va.of fun i=>[bs,bk].getD i 0) 2 [] (f0::R::[bkF bs z_ag [.string (mkS s0)],bkF bk z_fy [.int .i64 kk]]) w:=by
  refine hm.sat rfl (fun f hf ho k hk=>?_) ⟨Nat.le_refl 2,fun i _=>rfl⟩
  simp only [List.mem_cons,List.not_mem_nil,or_false] at hf
  rcases hf with rfl | rfl | rfl | rfl
  ·exact ⟨_,by simp,hk⟩
  ·rw [hRo] at ho;cases ho
  ·exact ⟨bkF bs z_ag [.string (mkS s0)],by simp,hk⟩
  ·exact ⟨_,by simp,hk⟩
 have hs1:=(hs0.toBk 3 rfl 1 (by decide) rfl).toBk 2 rfl 0 (by decide) rfl
 refine z_ac (cx:=z_er w (Un [f0,bkF bs z_ag [.string (mkS s0)],bkF bk z_fy [.int .i64 kk]]) [bs,bk]) g z_nW rfl rfl (β:=Va.of fun i=>[bs,bk].getD i 0) [.c (.v (.func (.yield l) #[] #[])),.c (.p 0 0),.c (.p 1 0)] 2 _ _ rfl rfl hs1 ?_
 obtain ⟨L,hLd⟩: ∃L,(piecesA k s0).map mkS=L:=⟨_,rfl⟩
 rw [hLd] at hY ⊢
 refine z_ai (ι:=List UInt8×List ByteArray×Fact) 2 (fun i=>[(0,.c (.v (.func (.yield l) #[] #[]))),(1,.c (.p 0 0)),(2,.c (.p 1 0))]) (fun i=>[⟨0,z_ag,[.v (.string (mkS i.1))]⟩,⟨1,z_fy,[.v (.int .i64 kk)]⟩]) (fun i=>[i.2.2,R])
  (fun i=>J i.2.1 i.2.2/\L=i.2.1++(piecesA k i.1).map mkS/\i.1.length<=1000000) (fun i=>i.1.length) (s0,[],f0) ⟨hJ0,hLd.symm,hL⟩ (Ent.mk' ⟨rfl,rfl,rfl,trivial⟩ rfl (fun β w' hs=>hs)) g ?_
 rintro ⟨r,pre,f⟩ ⟨hJ,hpre,hrl⟩
 simp only at hJ hpre hrl
 have hfo:=hJo _ _ hJ
 simp only
 have hsz:=z_je r
 obtain ⟨z,hz⟩: ∃z:Int,((mkS r).size:Int)=z:=⟨_,rfl⟩
 by_cases hr:r=[]
 ·subst hr
  rw [z_eb,List.map_nil,List.append_nil] at hpre
  intro β w' hs
  exact (hs.keepB (List.nil_sublist _)).fin [0] ⟨f,_,rfl,.inl ⟨pre,hJ,hpre.symm,rfl⟩⟩ rfl rfl rfl ⟨hfo,trivial⟩
 have hr0:0<r.length:=List.length_pos_iff.2 hr
 refine BIf.dec (fun _=>?_) (fun h=>absurd (show (0:Int)<((mkS r).size:Int) by omega) h)
 refine BIf.dec (fun _=>?_) (fun h=>absurd (show (0:Int)<kk by omega) h)
 obtain ⟨m,hm⟩: ∃m:Nat,m=min r.length (k+1):=⟨_,rfl⟩
 have hmt:r.take m=r.take (k+1):=by
  rcases Nat.le_total r.length (k+1) with h | h
  ·rw [hm,Nat.min_eq_left h,List.take_length,List.take_of_length_le h]
  ·rw [hm,Nat.min_eq_right h]
 have hmd:r.drop m=r.drop (k+1):=by
  rcases Nat.le_total r.length (k+1) with h | h
  ·rw [hm,Nat.min_eq_left h,List.drop_length,List.drop_of_length_le h]
  ·rw [hm,Nat.min_eq_right h]
 refine ⟨(m:Int),by show min _ _=_;omega,?_⟩
 refine ⟨m,0,rfl,rfl,by omega,Nat.zero_le _,?_⟩
 have hx:(mkS r).extract 0 m=mkS (r.take (k+1)):=by rw [z_pe,hmt]
 have hd:(mkS r).extract m (mkS r).size=mkS (r.drop (k+1)):=by rw [z_vh,hmd]
 have hLx:L[pre.length]?=some (mkS (r.take (k+1))):=by
  rw [hpre,z_hD k hr,List.map_cons,List.getElem?_append_right (Nat.le_refl _),Nat.sub_self]
  rfl
 refine z_bC (X:=noF) (x:=mkS (r.take (k+1))) hY 0 1 rfl hJ hfo rfl hRo (by decide) (fun β=>⟨by rw [<-hx];rfl,rfl,hLx⟩) rfl (fun β w _=>⟨trivial,fun k hk=>hk.elim,fun k _ h=>h.elim⟩) ?_ ?_
 ·intro f2 hfo2 hJ2
  refine ⟨(mkS r).size,m,rfl,rfl,Nat.le_refl _,by omega,?_⟩
  refine ⟨(r.drop (k+1),pre++[mkS (r.take (k+1))],f2),⟨hJ2,?_,by show (r.drop (k+1)).length<=_;rw [List.length_drop];omega⟩,by show (r.drop (k+1)).length<r.length;rw [List.length_drop];omega,?_⟩
  ·show L=(pre++[mkS (r.take (k+1))])++(piecesA k (r.drop (k+1))).map mkS
   rw [hpre,z_hD k hr,List.map_cons,List.append_assoc]
   rfl
  ·simp only [<-hd]
   exact Ent.same ⟨rfl,rfl,rfl,trivial⟩ rfl
 ·intro f2 hfo2 hJ2 β w' hs
  exact (hs.keepB (List.nil_sublist _)).fin [0] ⟨f2,_,rfl,.inr ⟨_,hJ2,rfl⟩⟩ rfl rfl rfl ⟨hfo2,trivial⟩
theorem z_rq (w:World) (s:ByteArray) (kk:Int):Con Tryz.prog z_l2 #[.string s,.int .i64 kk] w [] (fun v Fs=> ∃bs bk,v= .func (.func z_fv) #[] #[.pointer (some ⟨bs,0,none⟩),.pointer (some ⟨bk,0,none⟩)]/\Fs=[bkF bs z_ag [.string s],bkF bk z_fy [.int .i64 kk]]):=by
 refine z_ac (cx:=z_ke w (Un [])) (z_m8 w (Un [])) z_pG rfl rfl (β:=Va.z) [.c (.v (.string s)),.c (.v (.int .i64 kk))] 0 [] [] rfl rfl (Sat.start rfl) ?_
 intro β w' hs
 exact hs.ofBk.ofBk.fin [0,1] ⟨β 0,β 1,rfl,rfl⟩
theorem z_kw (url:Bool): ∀(a b:List UInt8),valsA url (a++b)=match valsA url a,valsA url b with | some x,some y=>some (x++y) | _,_=>none
 | [],b=>by simp only [List.nil_append,valsA];cases valsA url b<;>rfl
 | c::r,b=>by
  rw [List.cons_append]
  simp only [valsA,z_kw url r b]
  cases valA url c<;>cases valsA url r<;>cases valsA url b<;>rfl
theorem z_eD {url:Bool}: ∀ {l:List UInt8} {vs:List Nat},valsA url l=some vs->vs.length=l.length/\ ∀v∈vs,v<64
 | [],vs,h=>by
  obtain rfl:=Option.some.inj h
  exact ⟨rfl,fun v hv=>by cases hv⟩
 | c::r,vs,h=>by
  simp only [valsA] at h
  cases hc:valA url c with
  | none=>rw [hc] at h;cases h
  | some v=>
   cases hr:valsA url r with
   | none=>rw [hc,hr] at h;cases h
   | some ws=>
    rw [hc,hr] at h
    obtain rfl:=Option.some.inj h
    obtain ⟨h1,h2⟩:=z_eD hr
    refine ⟨by simp [h1],fun x hx=>?_⟩
    rcases List.mem_cons.1 hx with rfl | hx
    ·exact z_qK hc
    ·exact h2 x hx
theorem z_ry: ∀(vs ws:List Nat),vs.length%4=0-> ∃l,decG vs=some l/\decG (vs++ws)=(decG ws).map (l++ ·)
 | [],ws,_=>⟨[],rfl,by rw [List.nil_append];cases decG ws<;>rfl⟩
 | [_],_,h=>by simp at h
 | [_,_],_,h=>by simp at h
 | [_,_,_],_,h=>by simp at h
 | a::b::c::d::r,ws,h=>by
  obtain ⟨l,h1,h2⟩:=z_ry r ws (by simp only [List.length_cons] at h;omega)
  refine ⟨_,by simp only [decG,h1];rfl,?_⟩
  simp only [List.cons_append,decG,h2]
  cases decG ws<;>simp
def vfold (vs:List Nat):Nat:=vs.foldl (fun n v=>n*64+v) 0
def bytesN (N n:Nat):List UInt8:=(List.range n).map fun i=>u8n (N/256^(2 - i))
theorem grp2 {a b:Nat} (ha:a<64) (hb:b<64):decG [a,b]=if (vfold [a,b]*4096)%65536=0 then some (bytesN (vfold [a,b]*4096) 1) else none:=by
 have e:vfold [a,b]=a*64+b:=by simp [vfold]
 rw [e]
 have e2:bytesN ((a*64+b)*4096) 1=[u8n (a*4+b/16)]:=by
  show [u8n ((a*64+b)*4096/65536)]=_
  congr 2
  omega
 rw [e2]
 simp only [decG]
 by_cases h:b%16=0
 ·rw [if_pos h,if_pos (by omega)]
 ·rw [if_neg h,if_neg (by omega)]
theorem z_nu {x y:Nat} (h:x%256=y%256):u8n x=u8n y:=by
 unfold u8n
 apply UInt8.toNat_inj.1
 rw [UInt8.toNat_ofNat',UInt8.toNat_ofNat']
 exact h
theorem grp3 {a b c:Nat} (ha:a<64) (hb:b<64) (hc:c<64):decG [a,b,c]=if (vfold [a,b,c]*64)%256=0 then some (bytesN (vfold [a,b,c]*64) 2) else none:=by
 have e:vfold [a,b,c]=(a*64+b)*64+c:=by simp [vfold]
 rw [e]
 have e2:bytesN (((a*64+b)*64+c)*64) 2=[u8n (a*4+b/16),u8n (b%16*16+c/4)]:=by
  show [u8n (((a*64+b)*64+c)*64/65536),u8n (((a*64+b)*64+c)*64/256)]=_
  rw [z_nu (x:=((a*64+b)*64+c)*64/65536) (y:=a*4+b/16) (by omega),z_nu (x:=((a*64+b)*64+c)*64/256) (y:=b%16*16+c/4) (by omega)]
 rw [e2]
 simp only [decG]
 by_cases h:c%4=0
 ·rw [if_pos h,if_pos (by omega)]
 ·rw [if_neg h,if_neg (by omega)]
theorem grp4 {a b c d:Nat} (ha:a<64) (hb:b<64) (hc:c<64) (hd:d<64):decG [a,b,c,d]=some (bytesN (vfold [a,b,c,d]) 3):=by
 have e:vfold [a,b,c,d]=((a*64+b)*64+c)*64+d:=by simp [vfold]
 rw [e]
 have e2:bytesN (((a*64+b)*64+c)*64+d) 3=[u8n (a*4+b/16),u8n (b%16*16+c/4),u8n (c%4*64+d)]:=by
  show [u8n ((((a*64+b)*64+c)*64+d)/65536),u8n ((((a*64+b)*64+c)*64+d)/256),u8n ((((a*64+b)*64+c)*64+d)/1)]=_
  rw [z_nu (x:=(((a*64+b)*64+c)*64+d)/65536) (y:=a*4+b/16) (by omega),z_nu (x:=(((a*64+b)*64+c)*64+d)/256) (y:=b%16*16+c/4) (by omega),z_nu (x:=(((a*64+b)*64+c)*64+d)/1) (y:=c%4*64+d) (by omega)]
 rw [e2]
 simp [decG]
theorem z_ny (k:Nat): ∀(j:Nat) (l:List UInt8) (x:List UInt8),(piecesA k l)[j]?=some x->x=(l.drop ((k+1)*j)).take (k+1)/\(k+1)*j<l.length/\((piecesA k l).take j).flatten=l.take ((k+1)*j)
 | j,l,x,h=>by
  by_cases hl:l=[]
  ·rw [hl,z_eb] at h;simp at h
  ·have h0:0<l.length:=List.length_pos_iff.2 hl
   rw [z_hD k hl] at h ⊢
   cases j with
   | zero=>
    obtain rfl:l.take (k+1)=x:=by simpa using h
    exact ⟨by simp,by simpa using h0,by simp⟩
   | succ j=>
    have h':(piecesA k (l.drop (k+1)))[j]?=some x:=by simpa using h
    obtain ⟨h1,h2,h3⟩:=z_ny k j (l.drop (k+1)) x h'
    rw [List.length_drop] at h2
    refine ⟨?_,by rw [Nat.mul_succ];omega,?_⟩
    ·rw [h1,List.drop_drop,Nat.mul_succ,Nat.add_comm (k+1)]
    ·rw [List.take_succ_cons,List.flatten_cons,h3,Nat.mul_succ,Nat.add_comm ((k+1)*j) (k+1)]
     exact List.take_add.symm
theorem z_jX (k:Nat): ∀(m:Nat) (l:List UInt8),l.length<=m->(piecesA k l).flatten=l
 | 0,l,h=>by
  obtain rfl:l=[]:=List.length_eq_zero_iff.1 (by omega)
  rw [z_eb];rfl
 | m+1,l,h=>by
  by_cases hl:l=[]
  ·rw [hl,z_eb];rfl
  ·have h0:0<l.length:=List.length_pos_iff.2 hl
   rw [z_hD k hl,List.flatten_cons,z_jX k m _ (by rw [List.length_drop];omega),List.take_append_drop]
theorem z_xv {x y:Nat} (hx:x<33554432) (hy:y<64):bits .or .i64 ((x*64:Nat):Int) (y:Int)=((x*64+y:Nat):Int):=by
 show IntKind.i64.wrap (((BitVec.ofInt 64 ((x*64:Nat):Int)) ||| (BitVec.ofInt 64 (y:Int))).toNat:Int)=_
 have h1:(BitVec.ofInt 64 ((x*64:Nat):Int)).toNat=x<<<6:=by
  rw [BitVec.toNat_ofInt,Nat.shiftLeft_eq]
  omega
 have h2:(BitVec.ofInt 64 (y:Int)).toNat=y:=by
  rw [BitVec.toNat_ofInt]
  omega
 rw [BitVec.toNat_or,h1,h2,<-Nat.shiftLeft_add_eq_or_of_lt (by omega) x,Nat.shiftLeft_eq,wrap_i64 (by omega) (by omega)]
theorem z_qA {x k:Nat} (hx:x<33554432) (hk:k<=20):bits .and .i64 (x:Int) ((2^k - 1:Nat):Int)=((x%2^k:Nat):Int):=by
 show IntKind.i64.wrap (((BitVec.ofInt 64 (x:Int))&&&(BitVec.ofInt 64 ((2^k - 1:Nat):Int))).toNat:Int)=_
 have hp:2^k<=2^20:=Nat.pow_le_pow_right (by decide) hk
 have h1:(BitVec.ofInt 64 (x:Int)).toNat=x:=by
  rw [BitVec.toNat_ofInt]
  omega
 have h2:(BitVec.ofInt 64 ((2^k - 1:Nat):Int)).toNat=2^k - 1:=by
  rw [BitVec.toNat_ofInt]
  omega
 have h3:=Nat.mod_lt x (show 0<2^k from Nat.pos_of_ne_zero (by simp))
 rw [BitVec.toNat_and,h1,h2,Nat.and_two_pow_sub_one_eq_mod,wrap_i64 (by omega) (by omega)]
theorem z_yg {url:Bool} {n:Nat} (h:n<26):letA url n=UInt8.ofNat (65+n):=by unfold letA;rw [if_pos h]
theorem z_yf {url:Bool} {n:Nat} (h1: ¬n<26) (h:n<52):letA url n=UInt8.ofNat (97+n - 26):=by unfold letA;rw [if_neg h1,if_pos h]
theorem z_x2 {url:Bool} {n:Nat} (h1: ¬n<26) (h2: ¬n<52) (h:n<62):letA url n=UInt8.ofNat (48+n - 52):=by unfold letA;rw [if_neg h1,if_neg h2,if_pos h]
theorem z_qR {k:Nat} (h:k<256):Value.int .u8 ((k:Nat):Int)=byte (UInt8.ofNat k):=by
 unfold byte
 congr 2
 rw [UInt8.toNat_ofNat']
 omega
theorem z_rP (w:World) (n:Nat) (url:Bool) (hn:n<64):Pu Tryz.prog z_dm #[.int .i64 (n:Int),.bool url] w (byte (letA url n)):=by
 have g:=z_fB w (Un [])
 refine z_ac (cx:=z_cK w (Un [])) g z_ih rfl rfl (β:=Va.z) [.c (.v (.int .i64 (n:Int))),.c (.v (.bool url))] 0 [] [] rfl rfl (Sat.start rfl) ?_
 refine BIf.dec (fun h1=>?_) (fun h1=>?_)
 ·have h10:(n:Int)<26:=h1
  rw [z_yg (by omega)]
  refine ⟨(((65+n):Nat):Int),by rw [wrap_i64 (by omega) (by omega)];rfl,?_⟩
  refine ⟨((65+n:Nat):Int),by rw [IntKind.wrap_u8];omega,?_⟩
  intro β w' hs
  exact hs.fin [] ⟨z_qR (by omega),rfl⟩
 have h10: ¬(n:Int)<26:=h1
 refine BIf.dec (fun h2=>?_) (fun h2=>?_)
 ·have h20:(n:Int)<52:=h2
  rw [z_yf (by omega) (by omega)]
  refine ⟨(((97+n):Nat):Int),by rw [wrap_i64 (by omega) (by omega)];rfl,?_⟩
  refine ⟨(((97+n - 26):Nat):Int),by rw [wrap_i64 (by omega) (by omega)];omega,?_⟩
  refine ⟨((97+n - 26:Nat):Int),by rw [IntKind.wrap_u8];omega,?_⟩
  intro β w' hs
  exact hs.fin [] ⟨z_qR (by omega),rfl⟩
 have h20: ¬(n:Int)<52:=h2
 refine BIf.dec (fun h3=>?_) (fun h3=>?_)
 ·have h30:(n:Int)<62:=h3
  rw [z_x2 (by omega) (by omega) (by omega)]
  refine ⟨(((48+n):Nat):Int),by rw [wrap_i64 (by omega) (by omega)];rfl,?_⟩
  refine ⟨(((48+n - 52):Nat):Int),by rw [wrap_i64 (by omega) (by omega)];omega,?_⟩
  refine ⟨((48+n - 52:Nat):Int),by rw [IntKind.wrap_u8];omega,?_⟩
  intro β w' hs
  exact hs.fin [] ⟨z_qR (by omega),rfl⟩
 have h30: ¬(n:Int)<62:=h3
 refine BIf.dec (fun h4=>?_) (fun h4=>?_)
 ·have h40:(n:Int)=62:=h4
  obtain rfl:n=62:=by omega
  cases url with
  | true=>
   intro β w' hs
   exact hs.fin [] ⟨by rfl,rfl⟩
  | false=>
   intro β w' hs
   exact hs.fin [] ⟨by rfl,rfl⟩
 ·have h40: ¬(n:Int)=62:=h4
  obtain rfl:n=63:=by omega
  cases url with
  | true=>
   intro β w' hs
   exact hs.fin [] ⟨by rfl,rfl⟩
  | false=>
   intro β w' hs
   exact hs.fin [] ⟨by rfl,rfl⟩
theorem z_xM {url:Bool} {c:UInt8} {i:Nat} (h:i<64) (hno: ∀k,k<i->letA url k≠c) (hi:letA url i=c):valA url c=some i:=by
 rw [z_tZ,List.find?_range_eq_some]
 exact ⟨by simpa using hi,List.mem_range.2 h,fun j hj=>by simpa using hno j hj⟩
theorem z_xL {url:Bool} {c:UInt8} (hno: ∀k,k<64->letA url k≠c):valA url c=none:=by
 rw [z_tZ,List.find?_eq_none]
 intro k hk
 simpa using hno k (List.mem_range.1 hk)
theorem z_sR (w:World) (c:UInt8) (url:Bool):Pu Tryz.prog z_c8 #[byte c,.bool url] w (.int .i64 (valV url c)):=by
 have g:=z_fD w (Un [])
 refine z_ac (cx:=z_cJ w (Un [])) g z_hH rfl rfl (β:=Va.z) [.c (.v (byte c)),.c (.v (.bool url))] 0 [] [] rfl rfl (Sat.start rfl) ?_
 refine z_ai (ι:=Nat) 0 (fun j=>[(0,.c (.v (byte c))),(1,.c (.v (.bool url))),(5,.c (.v (.int .i64 (j:Int))))]) (fun _=>[]) (fun _=>[])
  (fun j=>j<=64/\ ∀k,k<j->letA url k≠c) (fun j=>64 - j) (0:Nat) ⟨Nat.zero_le _,fun k hk=>absurd hk (Nat.not_lt_zero _)⟩ (Ent.mk' ⟨rfl,rfl,rfl,trivial⟩ rfl (fun β w' hs=>hs)) g ?_
 rintro j ⟨hj,hno⟩
 refine BIf.dec (fun hlt=>?_) (fun hge=>?_)
 ·have hlt0:(j:Int)<64:=hlt
  refine z_ae (fun β w' hs=>z_rP w' j url (by omega)) ?_
  refine BIf.dec (fun he=>?_) (fun hne=>?_)
  ·have he0:letA url j=c:=UInt8.toNat_inj.1 (Int.ofNat_inj.1 he)
   intro β w' hs
   refine hs.fin [] ⟨?_,rfl⟩
   unfold valV
   rw [z_xM (by omega) hno he0]
   rfl
  ·have hne0:letA url j≠c:=fun q=>hne (by rw [q])
   refine ⟨((j+1:Nat):Int),by rw [wrap_i64 (by omega) (by omega)];rfl,?_⟩
   exact ⟨j+1,⟨by omega,fun k hk=>by
    rcases Nat.lt_or_ge k j with q | q
    ·exact hno k q
    ·obtain rfl:k=j:=by omega
     exact hne0⟩,by omega,Ent.mk' ⟨rfl,rfl,rfl,trivial⟩ rfl (fun β w' hs=>hs)⟩
 ·have hge0: ¬(j:Int)<64:=hge
  obtain rfl:j=64:=by omega
  intro β w' hs
  refine hs.fin [] ⟨?_,rfl⟩
  unfold valV
  rw [z_xL hno]
  rfl
theorem z_lq {url:Bool} {c:UInt8} (hc:valA url c=none): ∀ {l:List UInt8},c∈l->valsA url l=none
 | x::r,h=>by
  simp only [valsA]
  rcases List.mem_cons.1 h with rfl | h
  ·rw [hc]
  ·rw [z_lq hc h]
   cases valA url x<;>rfl
theorem z_ok (ws:List Nat) (v:Nat):vfold (ws++[v])=vfold ws*64+v:=by simp [vfold]
theorem z_oX: ∀(k:Nat) (ws:List Nat),ws.length=k->(∀v∈ws,v<64)->vfold ws<64^k
 | 0,ws,h,_=>by
  obtain rfl:=List.eq_nil_of_length_eq_zero h
  decide
 | k+1,ws,h,hv=>by
  have hne:ws≠[]:=fun e=>by rw [e] at h;cases h
  obtain ⟨us,v,rfl⟩: ∃us v,ws=us++[v]:=⟨ws.dropLast,ws.getLast hne,(List.dropLast_concat_getLast hne).symm⟩
  have h1:=z_oX k us (by rw [List.length_append] at h;simpa using h) (fun x hx=>hv x (List.mem_append_left _ hx))
  have h2:=hv v (by simp)
  rw [z_ok,Nat.pow_succ]
  omega
theorem grpZ {ws:List Nat} (h2:2<=ws.length) (h4:ws.length<=4) (hw: ∀v∈ws,v<64):decG ws=if (vfold ws*2^(6*(4 - ws.length)))%2^(8*(4 - ws.length))=0 then some (bytesN (vfold ws*2^(6*(4 - ws.length))) (ws.length - 1)) else none:=by
 match ws,h2,h4,hw with
 | [a,b],_,_,hw=>exact grp2 (hw a (by simp)) (hw b (by simp))
 | [a,b,c],_,_,hw=>exact grp3 (hw a (by simp)) (hw b (by simp)) (hw c (by simp))
 | [a,b,c,d],_,_,hw=>
  have h:=grp4 (hw a (by simp)) (hw b (by simp)) (hw c (by simp)) (hw d (by simp))
  rw [h]
  show _=if (vfold [a,b,c,d]*1)%1=0 then some (bytesN (vfold [a,b,c,d]*1) 3) else none
  rw [Nat.mul_one,if_pos (Nat.mod_one _)]
 | _::_::_::_::_::_,_,h4,_=>simp at h4
structure DcS where
 out:List UInt8
 A:Option Addr
 c:Nat
 e:Int
structure DcS.Ok (i:DcS) (url:Bool) (L:List ByteArray) (pre:List ByteArray):Prop where
 eq:pre=L.take pre.length
 vs: ∃vs,valsA url (pre.map (·.data.toList)).flatten=some vs/\((i.e=0/\decG vs=some i.out)\/(i.e=4/\decG vs=none))
 len:i.out.length<=3*pre.length
def decOut (url:Bool) (s:List UInt8) (v:Value) (Fs:List Fact):Prop:= ∃A l c e,v= .tuple #[.slice A l.length c,.int .i64 e]/\((e=0/\decS url s=some l)\/(e≠0/\decS url s=none))/\l.length<=c/\Fs=[browF z_ab A l c]
theorem z_ir {e:Nat} {c:Nat} {A:Option Addr} {l:List UInt8} {w:World} (h:(browF e A l c).p w):l.length<=c:=by
 rcases h.2 with ⟨_,h0⟩ | ⟨g,cap,cur,he,_,_,hnc,_⟩
 ·omega
 ·injection he with _ _ h3
  omega
theorem z_jv (N n:Nat):bytesN N (n+1)=bytesN N n++[u8n (N/256^(2 - n))]:=by
 unfold bytesN
 rw [List.range_succ,List.map_append]
 rfl
theorem z_lt (N n:Nat):(bytesN N n).length=n:=by simp [bytesN]
theorem z_qI {X k:Nat} (hk:k<=2):((X:Int)).fdiv (2^min (8*(2 - (k:Int))).toNat IntKind.i64.bits)=((X/256^(2 - k):Nat):Int):=by
 rw [show (8*(2 - (k:Int))).toNat=8*(2 - k) by omega,show min (8*(2 - k)) IntKind.i64.bits=8*(2 - k) from Nat.min_eq_left (by show _<=64;omega),show ((2:Int)^(8*(2 - k)))=((256^(2 - k):Nat):Int) by rw [show (256:Nat)=2^8 from rfl,<-Nat.pow_mul];simp]
 rw [Int.fdiv_eq_ediv_of_nonneg _ (Int.natCast_nonneg _)]
 rfl
set_option maxHeartbeats 1000000 in
theorem z_uO (w:World) (al s:ByteArray) (url:Bool) (ha:Alph al url) (hL:s.size<=1000000) (hs1:s.size%4≠1):Con Tryz.prog z_l4 #[.string al,.string s] w [] (decOut url s.data.toList):=by
 have g:=z_nC w (Un [])
 have hml:=maxLen_eq
 refine z_ac (cx:=z_kJ w (Un [])) g z_pO rfl rfl (β:=Va.z) [.c (.v (.string al)),.c (.v (.string s))] 0 [] [] rfl rfl (Sat.start rfl) ?_
 refine z_aa [] (fun β w' hs=>z_rq w' s 4) ?_
 rintro v Fs ⟨bs,bk,rfl,rfl⟩
 obtain ⟨s0,hs0⟩: ∃s0,s.data.toList=s0:=⟨_,rfl⟩
 have hss:s=mkS s0:=by rw [<-hs0,z_wG]
 have hsl:s0.length=s.size:=by rw [hss,z_je]
 rw [hss] at hs1
 rw [z_je] at hs1
 rw [hs0]
 obtain ⟨L,hLd⟩: ∃L,(piecesA 3 s0).map mkS=L:=⟨_,rfl⟩
 have hLL:L.length<=1000000:=by
  have h:=z_lc 3 _ s0 (Nat.le_refl _)
  rw [<-hLd,List.length_map]
  omega
 refine z_aG (α:=ByteArray) (ι:=DcS) (κ:=Unit) g rfl (cv:=[.pointer (some ⟨bs,0,none⟩),.pointer (some ⟨bk,0,none⟩)]) rfl (by kernel_rfl) 3 (Nat.le_refl 3)
  (fun pre i=>i.Ok url L pre) (fun i=>[⟨2,z_av,[.v (.int .i64 i.e)]⟩,⟨1,z_al,[.v (.slice i.A i.out.length i.c)]⟩,⟨0,z_ag,[.v (.string al)]⟩]) (fun i=>[browF z_ab i.A i.out i.c]) (fun i=>⟨rfl,trivial⟩)
  (fun e pre _=>e= .exit 0/\decS url s0=none) (fun _=>[⟨2,z_av,[.v (.int .i64 5)]⟩]) (fun _=>[]) (fun _=>trivial)
  [bkF bs z_ag [.string s],bkF bk z_fy [.int .i64 4]] [] [] ⟨rfl,rfl,trivial⟩ (fun g h=>by cases h) ⟨[],none,0,0⟩ ⟨rfl,⟨[],rfl,.inl ⟨rfl,rfl⟩⟩,Nat.le_refl _⟩
  (fun β w hs=>⟨β,Agr.refl _ _,(hs.nilRow z_ab 1).perm [1,2,0]⟩) (insS L)
  (fun xs Fs'=>xs=L/\Fs'=[]) (fun _ Fs'=>Fs'=[])
  (fun l w f0 R J Jx hJ0 hJo hRo hY hm=>by
   rw [hss] at hm
   have h:=z_wq l w bs bk 3 s0 f0 R J Jx 4 rfl (by decide) (by omega) hJ0 hJo hRo (by rw [hLd];exact hY) hm
   rw [hLd,<-hss] at h
   exact h) ?_ ?_ ?_
 ·rintro ⟨out,A,c,e⟩ pre x args X W S' lb bs' pn pn' hbs hok ⟨rfl,rfl,hx⟩
  obtain ⟨cs,hcs,rfl⟩: ∃cs,(piecesA 3 s0)[pre.length]?=some cs/\x=mkS cs:=by
   rw [<-hLd,List.getElem?_map] at hx
   obtain ⟨cs,h1,h2⟩:=Option.map_eq_some_iff.1 hx
   exact ⟨cs,h1,h2.symm⟩
  obtain ⟨p1,p2,p3⟩:=z_ny 3 _ _ _ hcs
  have hpf:(pre.map (·.data.toList)).flatten=s0.take (4*pre.length):=by
   conv=>lhs;rw [hok.eq]
   rw [<-hLd,<-List.map_take,List.map_map,show ((fun b:ByteArray=>b.data.toList)∘mkS)=id from funext fun l=>by simp [mkS],List.map_id]
   have h:=p3
   rw [show pre.length=pre.length from rfl] at h
   exact h
  obtain ⟨vs,hv1,hv2⟩:=hok.vs
  rw [hpf] at hv1
  have hvl:=z_eD hv1
  have hv4:vs.length%4=0:=by rw [hvl.1,List.length_take];omega
  have hcl:cs.length=min 4 (s0.length - 4*pre.length):=by rw [p1,List.length_take,List.length_drop]
  have hnext:(pre.map (·.data.toList)++[cs]).flatten=s0.take (4*pre.length)++cs:=by rw [List.flatten_append,hpf];simp
  have hdm:(mkS cs).data.toList=cs:=by simp [mkS]
  have hcz:=z_je cs
  refine ⟨_,rfl,?_⟩
  have hc4:cs.length<=4:=by omega
  have hc2:2<=cs.length:=by omega
  intro b1
  intro b2
  intro q1
  intro q2
  refine z_ai (ι:=Nat×Nat) 3 (fun j=>[(2,.c (.p 0 0)),(6,.c (.p 1 0)),(7,.c (.p 2 0)),(8,.c (.v (.string (mkS cs)))),(9,.c (.v (.int .i64 (j.2:Int)))),(19,.c (.v (.slice (some ⟨b1,0,none⟩) (mkS cs).size b2))),(20,.c (.v (.int .i64 ((mkS cs).size:Int)))),(21,.c (.v (.int .i64 (j.1:Int))))])
   (fun _=>[⟨2,z_av,[.v (.int .i64 e)]⟩,⟨1,z_al,[.v (.slice A out.length c)]⟩,⟨0,z_ag,[.v (.string al)]⟩]) (fun _=>[rdoF 1 (some ⟨b1,0,none⟩) (mkS cs).size ((mkS cs).data.toList.map byte),browF z_ab A out c])
   (fun j=>j.1<=cs.length/\ ∃ws,valsA url (cs.take j.1)=some ws/\j.2=vfold ws) (fun j=>cs.length - j.1) (0,0) ⟨Nat.zero_le _,[],rfl,rfl⟩ (Ent.mk' ⟨rfl,rfl,rfl,rfl,rfl,rfl,rfl,rfl,trivial⟩ rfl (fun β w' hs=>hs.perm [0,2])) (z_bD g) ?_
  rintro ⟨j,N⟩ ⟨hj,ws,hws,hN⟩
  simp only at hj hws hN
  have hwl:=z_eD hws
  have hNl:N<16777216:=by
   have h:=z_oX _ ws rfl hwl.2
   rw [<-hN,hwl.1,List.length_take] at h
   exact Nat.lt_of_lt_of_le h (Nat.le_trans (Nat.pow_le_pow_right (by decide) (show min j cs.length<=4 by omega)) (by decide))
  refine BIf.dec (fun hlt=>?_) (fun hge=>?_)
  ·have hlt0:(j:Int)<((mkS cs).size:Int):=hlt
   obtain ⟨y,hy,hym⟩:=at_lt (show j<cs.length by omega)
   have htk:cs.take (j+1)=cs.take j++[y]:=by rw [List.take_add_one,hy];rfl
   refine ⟨_,j,rfl,rfl,by omega,?_⟩
   refine ⟨byte y,fun β w' hs=>Rd.cell1 (show Rd 1 (some ⟨b1,0,none⟩) (mkS cs).size ((mkS cs).data.toList.map byte) w' from hs.get 0 rfl) (by rw [hdm,List.getElem?_map,hy];rfl),?_⟩
   have hval:=fun w'=>z_xo w' al url y ha
   unfold valV at hval
   cases hvy:valA url y with
   | none=>
    rw [hvy] at hval
    refine z_ae (v:= .int .i64 (-1)) (fun β w' hs=>hval w') ?_
    refine ⟨(),⟨rfl,?_⟩,Ent.mk' trivial rfl (fun β w hs=>((hs.keepB (List.Sublist.cons_cons _ (List.nil_sublist _))).perm []).lower)⟩
    have hym0:y∈s0:=by
     rw [p1] at hym
     exact List.mem_of_mem_drop (List.mem_of_mem_take hym)
    unfold decS
    rw [z_lq hvy hym0]
    rfl
   | some v=>
    rw [hvy] at hval
    have hv64:=z_qK hvy
    refine z_ae (v:= .int .i64 (v:Int)) (fun β w' hs=>hval w') ?_
    refine ⟨by decide,((N*64:Nat):Int),?_,?_⟩
    ·rw [show min (6:Int).toNat IntKind.i64.bits=6 from rfl,wrap_i64 (by omega) (by omega)];omega
    refine ⟨((N*64+v:Nat):Int),z_xv (by omega) hv64,?_⟩
    refine ⟨((j+1:Nat):Int),by rw [wrap_i64 (by omega) (by omega)];rfl,?_⟩
    refine ⟨(j+1,N*64+v),⟨by show j+1<=cs.length;omega,ws++[v],?_,by show N*64+v=_;rw [z_ok,<-hN]⟩,by show cs.length - (j+1)<cs.length - j;omega,Ent.same ⟨rfl,rfl,rfl,rfl,rfl,rfl,rfl,rfl,trivial⟩ rfl⟩
    show valsA url (cs.take (j+1))=_
    rw [htk,z_kw,hws]
    simp only [valsA,hvy]
  ·have hge0: ¬(j:Int)<((mkS cs).size:Int):=hge
   have hjc:cs.take j=cs:=List.take_of_length_le (by omega)
   rw [hjc] at hws
   have hwlen:ws.length=cs.length:=(z_eD hws).1
   have hw64:=(z_eD hws).2
   obtain ⟨l0,hd0,hd1⟩:=z_ry vs ws hv4
   obtain ⟨he0,ho0⟩:e=0/\out=l0:=by
    rcases hv2 with ⟨q,q'⟩ | ⟨q,q'⟩
    ·rw [hd0] at q'
     exact ⟨q,(Option.some.inj q').symm⟩
    ·rw [hd0] at q';cases q'
   subst he0 ho0
   have hvall:valsA url (pre.map (·.data.toList)++[cs]).flatten=some (vs++ws):=by
    rw [hnext,z_kw,hv1,hws]
   obtain ⟨X,hX⟩: ∃X:Nat,X=N*2^(6*(4 - cs.length)):=⟨_,rfl⟩
   have hgz:=grpZ (ws:=ws) (by omega) (by omega) hw64
   rw [<-hN,hwlen,<-hX] at hgz
   have hXl:X<16777216:=by
    have h:=z_oX _ ws rfl hw64
    rw [<-hN,hwlen] at h
    rw [hX,show (16777216:Nat)=64^cs.length*2^(6*(4 - cs.length)) by rw [show (64:Nat)=2^6 from rfl,<-Nat.pow_mul,<-Nat.pow_add,show 6*cs.length+6*(4 - cs.length)=24 by omega]]
    exact Nat.mul_lt_mul_of_pos_right h (Nat.pow_pos (by decide))
   have hpw:2^(8*(4 - cs.length))<=2^16:=Nat.pow_le_pow_right (by decide) (by omega)
   have hpw0:0<2^(8*(4 - cs.length)):=Nat.pow_pos (by decide)
   refine ⟨(((4 - (mkS cs).size):Nat):Int),by rw [wrap_i64 (by omega) (by omega)];omega,?_⟩
   refine ⟨_,wrap_i64 (by omega) (by omega),?_⟩
   refine ⟨by first | decide | omega,?_⟩
   refine ⟨(X:Int),?_,?_⟩
   ·rw [show (6*((4 - (mkS cs).size:Nat):Int)).toNat=6*(4 - cs.length) by omega,show min (6*(4 - cs.length)) IntKind.i64.bits=6*(4 - cs.length) from Nat.min_eq_left (by show _<=64;omega)]
    have e:((N:Int)*2^(6*(4 - cs.length)))=(X:Int):=by rw [hX];simp
    show IntKind.i64.wrap ((N:Int)*2^(6*(4 - cs.length)))=_
    rw [e,wrap_i64 (by omega) (by omega)]
   refine ⟨(((4 - (mkS cs).size):Nat):Int),by rw [wrap_i64 (by omega) (by omega)];omega,?_⟩
   refine ⟨_,wrap_i64 (by omega) (by omega),?_⟩
   refine ⟨by first | decide | omega,?_⟩
   refine ⟨((2^(8*(4 - cs.length)):Nat):Int),?_,?_⟩
   ·rw [show (8*((4 - (mkS cs).size:Nat):Int)).toNat=8*(4 - cs.length) by omega,show min (8*(4 - cs.length)) IntKind.i64.bits=8*(4 - cs.length) from Nat.min_eq_left (by show _<=64;omega)]
    have e:((1:Int)*2^(8*(4 - cs.length)))=((2^(8*(4 - cs.length)):Nat):Int):=by simp
    rw [e,wrap_i64 (by omega) (by omega)]
   refine ⟨((2^(8*(4 - cs.length)) - 1:Nat):Int),by rw [wrap_i64 (by omega) (by omega)];omega,?_⟩
   refine ⟨((X%2^(8*(4 - cs.length)):Nat):Int),z_qA (by omega) (by omega),?_⟩
   conv=>whnf
   generalize hq:decide (((mkS cs).size:Int)<4)=bq
   cases bq
   ·refine ⟨((((mkS cs).size - 1):Nat):Int),by rw [wrap_i64 (by omega) (by omega)];omega,?_⟩
    have hne: ¬(((mkS cs).size:Int)<4):=of_decide_eq_false hq
    have h0:X%2^(8*(4 - cs.length))=0:=by rw [show cs.length=4 by omega];exact Nat.mod_one _
    rw [if_pos h0] at hgz
    refine z_ai (ι:=Option Addr×Nat×Nat×List UInt8) 3 (fun j=>[(2,.c (.p 0 0)),(6,.c (.p 1 0)),(7,.c (.p 2 0)),(9,.c (.v (.int .i64 (X:Int)))),(58,.c (.v (.int .i64 (((mkS cs).size - 1:Nat):Int)))),(59,.c (.v (.int .i64 (j.2.2.1:Int))))])
     (fun j=>[⟨2,z_av,[.v (.int .i64 0)]⟩,⟨1,z_al,[.v (.slice j.1 j.2.2.2.length j.2.1)]⟩,⟨0,z_ag,[.v (.string al)]⟩]) (fun j=>[browF z_ab j.1 j.2.2.2 j.2.1])
     (fun j=>j.2.2.1<=cs.length - 1/\j.2.2.2=out++bytesN X j.2.2.1) (fun j=>cs.length - j.2.2.1) (A,c,0,out) ⟨Nat.zero_le _,(List.append_nil _).symm⟩ (Ent.mk' ⟨rfl,rfl,rfl,rfl,rfl,rfl,trivial⟩ rfl (fun β w' hs=>(hs.keepB (List.Sublist.refl _)).perm [1])) (z_bD g) ?_
    rintro ⟨A1,c1,k,l1⟩ ⟨hk,hl1⟩
    simp only at hk hl1
    have hl1l:l1.length=out.length+k:=by rw [hl1,List.length_append,z_lt]
    refine BIf.dec (fun hlt=>?_) (fun hge=>?_)
    ·have hlt0:(k:Int)<(((mkS cs).size - 1:Nat):Int):=hlt
     refine z_aj (z_bD g) z_eL (by kernel_rfl) [⟨2,z_av,[.v (.int .i64 0)]⟩,⟨1,z_al,[.v (.slice A1 l1.length c1)]⟩,⟨0,z_ag,[.v (.string al)]⟩] [] (Sub.of (List.Sublist.refl _) (List.nil_sublist _)) ?_
     refine ⟨_,wrap_i64 (by omega) (by omega),?_⟩
     refine ⟨_,wrap_i64 (by omega) (by omega),?_⟩
     refine ⟨by first | decide | omega,?_⟩
     refine ⟨((X/256^(2 - k):Nat):Int),z_qI (by omega),?_⟩
     refine ⟨((u8n (X/256^(2 - k))).toNat:Int),z_gb _,?_⟩
     intro b3
     refine ⟨subPerm [],?_⟩
     have hol:=hok.len
     have hol2:out.length<=3*pre.length:=hol
     have hpl:pre.length<L.length:=by
      rcases Nat.lt_or_ge pre.length L.length with h | h
      ·exact h
      ·rw [List.getElem?_eq_none h] at hx;cases hx
     obtain ⟨l2,hl2⟩: ∃l2,l2=l1++[u8n (X/256^(2 - k))]:=⟨_,rfl⟩
     have hl2l:l1.length+1=l2.length:=by rw [hl2,List.length_append];rfl
     refine ⟨1,l1.length,l2.length,_,[u8n (X/256^(2 - k))].map byte,l2.map byte,rfl,fun β w' hs=>z_an (hs.get 0 rfl),z_ap _,hl2l,by rw [hl2,List.map_append],by rw [maxLen_eq];omega,by show l2.length*1<=_;omega,?_⟩
     intro A2 c2 r1 r2 r3
     refine ⟨subPerm [],?_⟩
     refine ⟨(((k+1):Nat):Int),by rw [wrap_i64 (by omega) (by omega)];rfl,?_⟩
     exact ⟨(A2,c2,k+1,l2),⟨by show k+1<=_;omega,by show l2=_;rw [hl2,hl1,z_jv,List.append_assoc]⟩,by show cs.length - (k+1)<cs.length - k;omega,Ent.mk' ⟨rfl,rfl,rfl,rfl,rfl,rfl,trivial⟩ rfl (fun β w' hs=>hs.perm [1])⟩
    ·have hge0: ¬(k:Int)<(((mkS cs).size - 1:Nat):Int):=hge
     have hkk:k=cs.length - 1:=by omega
     refine ⟨⟨l1,A1,c1,0⟩,⟨?_,?_,?_⟩,Ent.mk' trivial rfl (fun β w' hs=>hs)⟩
     ·show pre++[mkS cs]=L.take (pre++[mkS cs]).length
      rw [List.length_append,List.length_singleton,List.take_add_one,hx,<-hok.eq]
      rfl
     ·refine ⟨vs++ws,by rw [List.map_append,List.map_singleton,hdm];exact hvall,?_⟩
      rw [hd1]
      have hh:((0:Int)=0/\decG ws=some (bytesN X (cs.length - 1)))\/((0:Int)=4/\decG ws=none):=(Or.inl (⟨rfl,hgz⟩:(0:Int)=0/\decG ws=some (bytesN X (cs.length - 1))))
      rcases hh with ⟨q1,q2⟩ | ⟨q1,q2⟩
      ·exact .inl ⟨q1,by rw [q2,hl1,hkk];rfl⟩
      ·exact .inr ⟨q1,by rw [q2];rfl⟩
     ·have h:=hok.len
      show l1.length<=3*(pre++[mkS cs]).length
      rw [hl1l,List.length_append,List.length_singleton]
      have h2:out.length<=3*pre.length:=h
      omega
   ·have hlt4:((mkS cs).size:Int)<4:=of_decide_eq_true hq
    conv=>whnf
    generalize hq2:decide (((X%2^(8*(4 - cs.length)):Nat):Int)=0)=bz
    cases bz
    ·have he0: ¬((X%2^(8*(4 - cs.length)):Nat):Int)=0:=of_decide_eq_false hq2
     rw [if_neg (show¬X%2^(8*(4 - cs.length))=0 by omega)] at hgz
     refine ⟨((((mkS cs).size - 1):Nat):Int),by rw [wrap_i64 (by omega) (by omega)];omega,?_⟩
     refine z_ai (ι:=Option Addr×Nat×Nat×List UInt8) 3 (fun j=>[(2,.c (.p 0 0)),(6,.c (.p 1 0)),(7,.c (.p 2 0)),(9,.c (.v (.int .i64 (X:Int)))),(58,.c (.v (.int .i64 (((mkS cs).size - 1:Nat):Int)))),(59,.c (.v (.int .i64 (j.2.2.1:Int))))])
      (fun j=>[⟨2,z_av,[.v (.int .i64 4)]⟩,⟨1,z_al,[.v (.slice j.1 j.2.2.2.length j.2.1)]⟩,⟨0,z_ag,[.v (.string al)]⟩]) (fun j=>[browF z_ab j.1 j.2.2.2 j.2.1])
      (fun j=>j.2.2.1<=cs.length - 1/\j.2.2.2=out++bytesN X j.2.2.1) (fun j=>cs.length - j.2.2.1) (A,c,0,out) ⟨Nat.zero_le _,(List.append_nil _).symm⟩ (Ent.mk' ⟨rfl,rfl,rfl,rfl,rfl,rfl,trivial⟩ rfl (fun β w' hs=>(hs.keepB (List.Sublist.refl _)).perm [1])) (z_bD g) ?_
     rintro ⟨A1,c1,k,l1⟩ ⟨hk,hl1⟩
     simp only at hk hl1
     have hl1l:l1.length=out.length+k:=by rw [hl1,List.length_append,z_lt]
     refine BIf.dec (fun hlt=>?_) (fun hge=>?_)
     ·have hlt0:(k:Int)<(((mkS cs).size - 1:Nat):Int):=hlt
      refine z_aj (z_bD g) z_eL (by kernel_rfl) [⟨2,z_av,[.v (.int .i64 4)]⟩,⟨1,z_al,[.v (.slice A1 l1.length c1)]⟩,⟨0,z_ag,[.v (.string al)]⟩] [] (Sub.of (List.Sublist.refl _) (List.nil_sublist _)) ?_
      refine ⟨_,wrap_i64 (by omega) (by omega),?_⟩
      refine ⟨_,wrap_i64 (by omega) (by omega),?_⟩
      refine ⟨by first | decide | omega,?_⟩
      refine ⟨((X/256^(2 - k):Nat):Int),z_qI (by omega),?_⟩
      refine ⟨((u8n (X/256^(2 - k))).toNat:Int),z_gb _,?_⟩
      intro b3
      refine ⟨subPerm [],?_⟩
      have hol:=hok.len
      have hol2:out.length<=3*pre.length:=hol
      have hpl:pre.length<L.length:=by
       rcases Nat.lt_or_ge pre.length L.length with h | h
       ·exact h
       ·rw [List.getElem?_eq_none h] at hx;cases hx
      obtain ⟨l2,hl2⟩: ∃l2,l2=l1++[u8n (X/256^(2 - k))]:=⟨_,rfl⟩
      have hl2l:l1.length+1=l2.length:=by rw [hl2,List.length_append];rfl
      refine ⟨1,l1.length,l2.length,_,[u8n (X/256^(2 - k))].map byte,l2.map byte,rfl,fun β w' hs=>z_an (hs.get 0 rfl),z_ap _,hl2l,by rw [hl2,List.map_append],by rw [maxLen_eq];omega,by show l2.length*1<=_;omega,?_⟩
      intro A2 c2 r1 r2 r3
      refine ⟨subPerm [],?_⟩
      refine ⟨(((k+1):Nat):Int),by rw [wrap_i64 (by omega) (by omega)];rfl,?_⟩
      exact ⟨(A2,c2,k+1,l2),⟨by show k+1<=_;omega,by show l2=_;rw [hl2,hl1,z_jv,List.append_assoc]⟩,by show cs.length - (k+1)<cs.length - k;omega,Ent.mk' ⟨rfl,rfl,rfl,rfl,rfl,rfl,trivial⟩ rfl (fun β w' hs=>hs.perm [1])⟩
     ·have hge0: ¬(k:Int)<(((mkS cs).size - 1:Nat):Int):=hge
      have hkk:k=cs.length - 1:=by omega
      refine ⟨⟨l1,A1,c1,4⟩,⟨?_,?_,?_⟩,Ent.mk' trivial rfl (fun β w' hs=>hs)⟩
      ·show pre++[mkS cs]=L.take (pre++[mkS cs]).length
       rw [List.length_append,List.length_singleton,List.take_add_one,hx,<-hok.eq]
       rfl
      ·refine ⟨vs++ws,by rw [List.map_append,List.map_singleton,hdm];exact hvall,?_⟩
       rw [hd1]
       have hh:((4:Int)=0/\decG ws=some (bytesN X (cs.length - 1)))\/((4:Int)=4/\decG ws=none):=(Or.inr (⟨rfl,hgz⟩:(4:Int)=4/\decG ws=none))
       rcases hh with ⟨q1,q2⟩ | ⟨q1,q2⟩
       ·exact .inl ⟨q1,by rw [q2,hl1,hkk];rfl⟩
       ·exact .inr ⟨q1,by rw [q2];rfl⟩
      ·have h:=hok.len
       show l1.length<=3*(pre++[mkS cs]).length
       rw [hl1l,List.length_append,List.length_singleton]
       have h2:out.length<=3*pre.length:=h
       omega
    ·have he0:((X%2^(8*(4 - cs.length)):Nat):Int)=0:=of_decide_eq_true hq2
     rw [if_pos (show X%2^(8*(4 - cs.length))=0 by omega)] at hgz
     refine ⟨((((mkS cs).size - 1):Nat):Int),by rw [wrap_i64 (by omega) (by omega)];omega,?_⟩
     refine z_ai (ι:=Option Addr×Nat×Nat×List UInt8) 3 (fun j=>[(2,.c (.p 0 0)),(6,.c (.p 1 0)),(7,.c (.p 2 0)),(9,.c (.v (.int .i64 (X:Int)))),(58,.c (.v (.int .i64 (((mkS cs).size - 1:Nat):Int)))),(59,.c (.v (.int .i64 (j.2.2.1:Int))))])
      (fun j=>[⟨2,z_av,[.v (.int .i64 0)]⟩,⟨1,z_al,[.v (.slice j.1 j.2.2.2.length j.2.1)]⟩,⟨0,z_ag,[.v (.string al)]⟩]) (fun j=>[browF z_ab j.1 j.2.2.2 j.2.1])
      (fun j=>j.2.2.1<=cs.length - 1/\j.2.2.2=out++bytesN X j.2.2.1) (fun j=>cs.length - j.2.2.1) (A,c,0,out) ⟨Nat.zero_le _,(List.append_nil _).symm⟩ (Ent.mk' ⟨rfl,rfl,rfl,rfl,rfl,rfl,trivial⟩ rfl (fun β w' hs=>(hs.keepB (List.Sublist.refl _)).perm [1])) (z_bD g) ?_
     rintro ⟨A1,c1,k,l1⟩ ⟨hk,hl1⟩
     simp only at hk hl1
     have hl1l:l1.length=out.length+k:=by rw [hl1,List.length_append,z_lt]
     refine BIf.dec (fun hlt=>?_) (fun hge=>?_)
     ·have hlt0:(k:Int)<(((mkS cs).size - 1:Nat):Int):=hlt
      refine z_aj (z_bD g) z_eL (by kernel_rfl) [⟨2,z_av,[.v (.int .i64 0)]⟩,⟨1,z_al,[.v (.slice A1 l1.length c1)]⟩,⟨0,z_ag,[.v (.string al)]⟩] [] (Sub.of (List.Sublist.refl _) (List.nil_sublist _)) ?_
      refine ⟨_,wrap_i64 (by omega) (by omega),?_⟩
      refine ⟨_,wrap_i64 (by omega) (by omega),?_⟩
      refine ⟨by first | decide | omega,?_⟩
      refine ⟨((X/256^(2 - k):Nat):Int),z_qI (by omega),?_⟩
      refine ⟨((u8n (X/256^(2 - k))).toNat:Int),z_gb _,?_⟩
      intro b3
      refine ⟨subPerm [],?_⟩
      have hol:=hok.len
      have hol2:out.length<=3*pre.length:=hol
      have hpl:pre.length<L.length:=by
       rcases Nat.lt_or_ge pre.length L.length with h | h
       ·exact h
       ·rw [List.getElem?_eq_none h] at hx;cases hx
      obtain ⟨l2,hl2⟩: ∃l2,l2=l1++[u8n (X/256^(2 - k))]:=⟨_,rfl⟩
      have hl2l:l1.length+1=l2.length:=by rw [hl2,List.length_append];rfl
      refine ⟨1,l1.length,l2.length,_,[u8n (X/256^(2 - k))].map byte,l2.map byte,rfl,fun β w' hs=>z_an (hs.get 0 rfl),z_ap _,hl2l,by rw [hl2,List.map_append],by rw [maxLen_eq];omega,by show l2.length*1<=_;omega,?_⟩
      intro A2 c2 r1 r2 r3
      refine ⟨subPerm [],?_⟩
      refine ⟨(((k+1):Nat):Int),by rw [wrap_i64 (by omega) (by omega)];rfl,?_⟩
      exact ⟨(A2,c2,k+1,l2),⟨by show k+1<=_;omega,by show l2=_;rw [hl2,hl1,z_jv,List.append_assoc]⟩,by show cs.length - (k+1)<cs.length - k;omega,Ent.mk' ⟨rfl,rfl,rfl,rfl,rfl,rfl,trivial⟩ rfl (fun β w' hs=>hs.perm [1])⟩
     ·have hge0: ¬(k:Int)<(((mkS cs).size - 1:Nat):Int):=hge
      have hkk:k=cs.length - 1:=by omega
      refine ⟨⟨l1,A1,c1,0⟩,⟨?_,?_,?_⟩,Ent.mk' trivial rfl (fun β w' hs=>hs)⟩
      ·show pre++[mkS cs]=L.take (pre++[mkS cs]).length
       rw [List.length_append,List.length_singleton,List.take_add_one,hx,<-hok.eq]
       rfl
      ·refine ⟨vs++ws,by rw [List.map_append,List.map_singleton,hdm];exact hvall,?_⟩
       rw [hd1]
       have hh:((0:Int)=0/\decG ws=some (bytesN X (cs.length - 1)))\/((0:Int)=4/\decG ws=none):=(Or.inl (⟨rfl,hgz⟩:(0:Int)=0/\decG ws=some (bytesN X (cs.length - 1))))
       rcases hh with ⟨q1,q2⟩ | ⟨q1,q2⟩
       ·exact .inl ⟨q1,by rw [q2,hl1,hkk];rfl⟩
       ·exact .inr ⟨q1,by rw [q2];rfl⟩
      ·have h:=hok.len
       show l1.length<=3*(pre++[mkS cs]).length
       rw [hl1l,List.length_append,List.length_singleton]
       have h2:out.length<=3*pre.length:=h
       omega
 ·rintro xs ⟨out,A,c,e⟩ Fs hok ⟨rfl,rfl⟩
  obtain ⟨vs,hv1,hv2⟩:=hok.vs
  have hfl:(xs.map (·.data.toList)).flatten=s0:=by
   rw [<-hLd,List.map_map,show ((fun b:ByteArray=>b.data.toList)∘mkS)=id from funext fun l=>by simp [mkS],List.map_id,z_jX 3 _ _ (Nat.le_refl _)]
  rw [hfl] at hv1
  have hds:decS url s0=decG vs:=by unfold decS;rw [hv1];rfl
  rcases hv2 with ⟨q1,q2⟩ | ⟨q1,q2⟩
  ·obtain rfl:e=0:=q1
   intro β w' hs
   have hcap:out.length<=c:=z_ir (show (browF z_ab A out c).p w' from hs.get 0 rfl)
   exact (hs.keepB (List.nil_sublist _)).fin [0] ⟨A,out,c,0,rfl,.inl ⟨rfl,by rw [hds,q2]⟩,hcap,rfl⟩
  ·obtain rfl:e=4:=q1
   refine z_aj g z_hr (by kernel_rfl) [⟨2,z_av,[.v (.int .i64 4)]⟩] [] (Sub.of (List.sublist_append_left _ _) (List.nil_sublist _)) ?_
   intro β w' hs
   exact ((hs.keepB (List.nil_sublist _)).nilRow z_ab 1).fin [0] ⟨none,[],0,4,rfl,.inr ⟨by decide,by rw [hds,q2]⟩,Nat.le_refl _,rfl⟩
 ·rintro e pre ⟨⟩ Fs ⟨rfl,hno⟩ rfl
  refine z_aj g z_hr (by kernel_rfl) [⟨2,z_av,[.v (.int .i64 5)]⟩] [] (Sub.of (List.Sublist.refl _) (List.nil_sublist _)) ?_
  intro β w' hs
  exact ((hs.keepB (List.nil_sublist _)).nilRow z_ab 1).fin [0] ⟨none,[],0,5,rfl,.inr ⟨by decide,hno⟩,Nat.le_refl _,rfl⟩
def strip (s:List UInt8):List UInt8:=if s.getLast?=some 61 then s.dropLast else s
theorem z_qF (s:List UInt8):unpad s=strip (strip s):=by
 unfold unpad strip
 by_cases h:s.getLast?=some 61
 ·rw [if_pos h,if_pos h]
 ·rw [if_neg h,if_neg h,if_neg h]
def decOutP (l:Option (List UInt8)) (v:Value) (Fs:List Fact):Prop:= ∃A l' c e,v= .tuple #[.slice A l'.length c,.int .i64 e]/\((e=0/\l=some l')\/(e≠0/\l=none))/\l'.length<=c/\Fs=[browF z_ab A l' c]
theorem z_wi (w:World) (s:List UInt8) (hL:s.length<=1000000):Con Tryz.prog z_lM #[.string (mkS s)] w [] (decOutP (decP s)):=by
 have g:=z_nc w (Un [])
 have hml:=maxLen_eq
 refine z_ac (cx:=z_kr w (Un [])) g z_pV rfl rfl (β:=Va.z) [.c (.v (.string (mkS s)))] 0 [] [] rfl rfl (Sat.start rfl) ?_
 have hsz:=z_je s
 refine ⟨by first | decide | omega,?_⟩
 refine ⟨(((mkS s).size%4:Nat):Int),Int.ofNat_tmod _ _,?_⟩
 refine BIf.not (BIf.dec (fun h0=>?_) (fun h0=>?_))
 ·have h00:(((mkS s).size%4:Nat):Int)=0:=h0
  refine z_ai (ι:=Nat×List UInt8) 0 (fun j=>[(0,.c (.v (.string (mkS j.2)))),(9,.c (.v (.int .i64 (j.1:Int))))]) (fun _=>[]) (fun _=>[])
   (fun j=>j.1<=2/\j.2.length<=s.length/\(j.1=0->j.2=s)/\(j.1=1->j.2=strip s)/\(j.1=2->j.2=unpad s)) (fun j=>2 - j.1) (0,s) ⟨Nat.zero_le _,Nat.le_refl _,fun _=>rfl,(fun h=>by cases h),(fun h=>by cases h)⟩ (Ent.mk' ⟨rfl,rfl,trivial⟩ rfl (fun β w' hs=>hs)) g ?_
  rintro ⟨i,t⟩ ⟨hi,htl,t0,t1,t2⟩
  simp only at hi htl t0 t1 t2
  have htz:=z_je t
  refine BIf.dec (fun hlt=>?_) (fun hge=>?_)
  ·have hlt0:(i:Int)<2:=hlt
   have hsl:(strip t).length<=t.length:=by
    unfold strip
    split
    ·rw [List.length_dropLast];omega
    ·exact Nat.le_refl _
   have hnx: ∀u,u=strip t->i+1<=2/\u.length<=s.length/\(i+1=0->u=s)/\(i+1=1->u=strip s)/\(i+1=2->u=unpad s):=by
    rintro u rfl
    refine ⟨by omega,by omega,fun h=>by omega,fun h=>?_,fun h=>?_⟩
    ·rw [t0 (by omega)]
    ·rw [t1 (by omega),<-z_qF]
   conv=>whnf
   generalize hq:decide ((0:Int)<((mkS t).size:Int))=bq
   cases bq
   ·have hq0: ¬(0:Int)<((mkS t).size:Int):=of_decide_eq_false hq
    have ht:t=strip t:=by
     rw [List.length_eq_zero_iff.1 (show t.length=0 by omega)]
     rfl
    refine ⟨(((i+1):Nat):Int),by rw [wrap_i64 (by omega) (by omega)];rfl,?_⟩
    exact ⟨(i+1,t),hnx t ht,by show 2 - (i+1)<2 - i;omega,Ent.mk' ⟨rfl,rfl,trivial⟩ rfl (fun β w' hs=>hs)⟩
   ·have hq0:(0:Int)<((mkS t).size:Int):=of_decide_eq_true hq
    obtain ⟨u,c,rfl⟩: ∃u c,t=u++[c]:=⟨t.dropLast,t.getLast (fun e=>by rw [e] at hq0;exact absurd hq0 (by decide)),(List.dropLast_concat_getLast _).symm⟩
    have hul:(u++[c]).length=u.length+1:=by rw [List.length_append];rfl
    refine ⟨((u.length:Nat):Int),by show IntKind.i64.wrap (((mkS (u++[c])).size:Int) - 1)=_;rw [wrap_i64 (by omega) (by omega)];omega,?_⟩
    refine ⟨u.length,c,rfl,by show (mkS (u++[c])).data.toList[u.length]?=some c;simp [mkS],?_⟩
    have hst:strip (u++[c])=if c=61 then u else u++[c]:=by
     unfold strip
     rw [List.getLast?_concat,List.dropLast_concat]
     by_cases h:c=61
     ·rw [if_pos h,if_pos (by rw [h])]
     ·rw [if_neg h,if_neg (fun q=>h (Option.some.inj q))]
    conv=>whnf
    generalize hq2:decide ((c.toNat:Int)=61)=bc
    cases bc
    ·have hc: ¬(c.toNat:Int)=61:=of_decide_eq_false hq2
     rw [if_neg (fun q=>hc (by rw [q];rfl))] at hst
     refine ⟨(((i+1):Nat):Int),by rw [wrap_i64 (by omega) (by omega)];rfl,?_⟩
     exact ⟨(i+1,u++[c]),hnx _ hst.symm,by show 2 - (i+1)<2 - i;omega,Ent.mk' ⟨rfl,rfl,trivial⟩ rfl (fun β w' hs=>hs)⟩
    ·have hc:(c.toNat:Int)=61:=of_decide_eq_true hq2
     have hc1:c=61:=UInt8.toNat_inj.1 (by show c.toNat=61;omega)
     rw [if_pos hc1] at hst
     refine ⟨((u.length:Nat):Int),by show IntKind.i64.wrap (((mkS (u++[c])).size:Int) - 1)=_;rw [wrap_i64 (by omega) (by omega)];omega,?_⟩
     refine ⟨u.length,0,rfl,rfl,by show u.length<=(mkS (u++[c])).size;omega,Nat.zero_le _,?_⟩
     have hcut:(mkS (u++[c])).extract 0 u.length=mkS u:=by rw [z_pe,List.take_left]
     refine ⟨(((i+1):Nat):Int),by rw [wrap_i64 (by omega) (by omega)];rfl,?_⟩
     refine ⟨(i+1,u),hnx _ hst.symm,by show 2 - (i+1)<2 - i;omega,?_⟩
     simp only [<-hcut]
     exact Ent.mk' ⟨rfl,rfl,trivial⟩ rfl (fun β w' hs=>hs)
  ·have hge0: ¬(i:Int)<2:=hge
   have htu:t=unpad s:=t2 (by omega)
   subst htu
   have huz:=z_je (unpad s)
   refine ⟨by first | decide | omega,?_⟩
   refine ⟨(((mkS (unpad s)).size%4:Nat):Int),Int.ofNat_tmod _ _,?_⟩
   refine BIf.dec (fun h1=>?_) (fun h1=>?_)
   ·have h11:(((mkS (unpad s)).size%4:Nat):Int)=1:=h1
    intro β w' hs
    exact (hs.nilRow z_ab 1).fin [0] ⟨none,[],0,5,rfl,.inr ⟨by decide,by unfold decP;rw [if_neg (by omega),if_pos (by omega)]⟩,Nat.le_refl _,rfl⟩
   ·have h11: ¬(((mkS (unpad s)).size%4:Nat):Int)=1:=h1
    have hdp:decP s=decS false (unpad s):=by unfold decP;rw [if_neg (by omega),if_neg (by omega)]
    refine z_aa [] (fun β w' hs=>z_uO w' _ (mkS (unpad s)) false ⟨by decide,by decide,by decide⟩ (by omega) (by omega)) ?_
    rintro v Fs ⟨A,l,c,e,rfl,hle,hcap,rfl⟩
    rw [show (mkS (unpad s)).data.toList=unpad s by simp [mkS],<-hdp] at hle
    intro β w' hs
    exact hs.fin [0] ⟨A,l,c,e,rfl,hle,hcap,rfl⟩
 ·have h00: ¬(((mkS s).size%4:Nat):Int)=0:=h0
  intro β w' hs
  exact (hs.nilRow z_ab 1).fin [0] ⟨none,[],0,2,rfl,.inr ⟨by decide,by unfold decP;rw [if_pos (by omega)]⟩,Nat.le_refl _,rfl⟩
end Go.Proofs.YtloeaiafphkjnaaGreatDoor.Sx
namespace Go.Proofs.YtloeaiafphkjnaaGreatDoor.Sx
open Go
def roX (f:Fact):Fact:=⟨false,f.D,f.p,f.st⟩
theorem Sat.asRo {cx:Cx} {β:Va} {n:Nat} {H:List Bk} {F:List Fact} {w:World} (h:Sat cx β n H F w) (j:Nat) {f:Fact} (hj:nth F j=some f) (ho:f.own=true:=by rfl):Sat cx β n H (putAt F j (roX f)) w:=
 h.upd hj ho (Chg.refl _ _) (show f.p w from h.get j hj) (fun _ hk=> .inl hk)
theorem Sat.ofRo {cx:Cx} {β:Va} {n:Nat} {H:List Bk} {F:List Fact} {w:World} (h:Sat cx β n H F w) (j:Nat) {f:Fact} (hj:nth F j=some (roX f)) (g:Fact) (hgo:g.own=false) (hp:g.p w) (hD: ∀k,g.D k->f.D k):Sat cx β n H (g::F) w:=
 h.sub j hj rfl g hgo hp hD
theorem BIf.yes {P Q:Prop} {b:Bool} (hb:b=true) (h:P):BIf P Q b:=by subst hb;exact h
theorem BIf.no {P Q:Prop} {b:Bool} (hb:b=false) (h:Q):BIf P Q b:=by subst hb;exact h
end Go.Proofs.YtloeaiafphkjnaaGreatDoor.Sx
namespace Go.Proofs.YtloeaiafphkjnaaGreatDoor.Sx
open Go Sha
attribute [local irreducible] Calls
end Go.Proofs.YtloeaiafphkjnaaGreatDoor.Sx
namespace Go.Proofs.YtloeaiafphkjnaaGreatDoor.Sx
open Go
attribute [local irreducible] Calls
end Go.Proofs.YtloeaiafphkjnaaGreatDoor.Sx
namespace Go.Proofs.YtloeaiafphkjnaaGreatDoor.Sx
open Go Sha
attribute [local irreducible] Calls
theorem z_x3 {w w':World} (h:RowKit.Below w.heap.size w w'):Chg None_ w w':=⟨h.os,h.tape,h.output,h.size,fun k hk _=>h.block k hk⟩
def joinB (xs:List ByteArray) (sep:ByteArray):ByteArray:=⟨(Lib.join (xs.map (·.data.toList)) sep.data.toList).toArray⟩
theorem z_ux (w:World) (b c:Nat) (xs:List ByteArray) (sep:ByteArray) (hP:Rd 1 (some ⟨b,0,none⟩) xs.length (xs.map Value.string) w) (hb:b<w.heap.size) (hN:xs.length<=1000) (hcap:xs.length<=c) (hlen:(Lib.join (xs.map (·.data.toList)) sep.data.toList).length<=140737488355328):
  Pu Tryz.prog z_nZ #[.slice (some ⟨b,0,none⟩) xs.length c,.string sep] w (.string (joinB xs sep)):=by
 refine pu_of (Calls.mono (Tryz.strings_Join b 0 c xs sep w (fun j x hx=>?_) hb (by omega) hcap hlen) ?_)
 ·have hj:j<xs.length:=(List.getElem?_eq_some_iff.1 hx).1
  obtain ⟨ad,h1,h2⟩:=hP.2 (by omega)
  obtain rfl:=Option.some.inj h1
  have:=h2 j (.string x) (by rw [List.getElem?_map,hx];rfl)
  rw [z_a0] at this
  exact this
 ·rintro e w' ⟨rfl,hw⟩
  exact ⟨_,rfl,rfl,z_x3 hw⟩
end Go.Proofs.YtloeaiafphkjnaaGreatDoor.Sx
namespace Go.Proofs.YtloeaiafphkjnaaGreatDoor.Sx
open Go
attribute [local irreducible] Calls
end Go.Proofs.YtloeaiafphkjnaaGreatDoor.Sx
namespace Go.Proofs.YtloeaiafphkjnaaGreatDoor.Sx
open Go Sha
attribute [local irreducible] Calls
end Go.Proofs.YtloeaiafphkjnaaGreatDoor.Sx
namespace Go.Proofs.YtloeaiafphkjnaaGreatDoor.Sx
open Go
end Go.Proofs.YtloeaiafphkjnaaGreatDoor.Sx
namespace Go.Proofs.YtloeaiafphkjnaaGreatDoor.Sx
open Go
attribute [local irreducible] Calls
section
variable {cx:Cx} {β:Va} {n:Nat} {env:Env} {H:List Bk} {F:List Fact} {w:World}
end
end Go.Proofs.YtloeaiafphkjnaaGreatDoor.Sx
namespace Go.Proofs.YtloeaiafphkjnaaGreatDoor.Sx
open Go
attribute [local irreducible] Calls
def str (l:List UInt8):ByteArray:=⟨l.toArray⟩
theorem z_w6 {v:Value} (h:v.oneCell'=true): ∀u∈[v],u.oneCell'=true:=fun u hu=>by obtain rfl:=List.mem_singleton.1 hu;exact h
theorem z_yu {x y:Nat} (hx:x<36028797018963968) (hy:y<256):bits .or .i64 ((x*256:Nat):Int) (y:Int)=((x*256+y:Nat):Int):=by
 show IntKind.i64.wrap (((BitVec.ofInt 64 ((x*256:Nat):Int)) ||| (BitVec.ofInt 64 (y:Int))).toNat:Int)=_
 have h1:(BitVec.ofInt 64 ((x*256:Nat):Int)).toNat=x<<<8:=by
  rw [BitVec.toNat_ofInt,Nat.shiftLeft_eq]
  omega
 have h2:(BitVec.ofInt 64 (y:Int)).toNat=y:=by
  rw [BitVec.toNat_ofInt]
  omega
 rw [BitVec.toNat_or,h1,h2,<-Nat.shiftLeft_add_eq_or_of_lt (by omega) x,Nat.shiftLeft_eq,wrap_i64 (by omega) (by omega)]
theorem z_xq {x:Nat} (hx:x<36028797018963968):IntKind.i64.wrap ((x:Int)*2^(min (8:Int).toNat IntKind.i64.bits))=((x*256:Nat):Int):=by
 have h1:min (8:Int).toNat IntKind.i64.bits=8:=rfl
 rw [h1,wrap_i64 (by omega) (by omega)]
 omega
end Go.Proofs.YtloeaiafphkjnaaGreatDoor.Sx
namespace Go.Proofs.YtloeaiafphkjnaaGreatDoor.Sx
open Go Sha
attribute [local irreducible] Calls
end Go.Proofs.YtloeaiafphkjnaaGreatDoor.Sx
namespace Go.Proofs.YtloeaiafphkjnaaGreatDoor.Sx
open Go
attribute [local irreducible] Calls
end Go.Proofs.YtloeaiafphkjnaaGreatDoor.Sx
namespace Go.Proofs.YtloeaiafphkjnaaGreatDoor.Sx
open Go
attribute [local irreducible] Calls
section
variable {cx:Cx} {β:Va} {n:Nat} {H:List Bk} {F:List Fact} {w:World}
theorem rowD {e size:Nat} {A:Option Addr} {k c:Nat} {xs:List Value} {w:World} (h:(rowF e size (.slice A k c) k xs).p w): ∀b,(rdF size A k xs).D b->(rowF e size (.slice A k c) k xs).D b:=by
 rintro b ⟨h0,ad,q,rfl⟩
 have hk:0<k:=Nat.pos_of_ne_zero (fun q=>by rw [q,Nat.zero_mul] at h0;exact Nat.lt_irrefl _ h0)
 rcases h.2 with ⟨he,h0⟩ | ⟨g,cap,cur,he,_⟩
 ·omega
 ·have hA:A=some ⟨g,0,none⟩:=by injection he
  rw [q] at hA
  obtain rfl:=Option.some.inj hA
  show Value.ownBlock (.slice A k c)=_
  rw [q]
  rfl
theorem Sat.rowRd (h:Sat cx β n H F w) (j:Nat) {e size:Nat} {A:Option Addr} {k c:Nat} {xs:List Value} (hj:nth F j=some (rowF e size (.slice A k c) k xs)):Sat cx β n H (putAt F j (rdF size A k xs)) w:=by
 have hp:=h.get j hj
 exact h.upd hj rfl (Chg.refl _ _) (z_an hp) (fun b hb=> .inl (rowD hp b hb))
end
end Go.Proofs.YtloeaiafphkjnaaGreatDoor.Sx
namespace Go.Proofs.YtloeaiafphkjnaaGreatDoor.Sx
open Go
attribute [local irreducible] Calls
end Go.Proofs.YtloeaiafphkjnaaGreatDoor.Sx
namespace Go.Proofs.YtloeaiafphkjnaaGreatDoor.Sx
open Go
end Go.Proofs.YtloeaiafphkjnaaGreatDoor.Sx
namespace Go.Proofs.YtloeaiafphkjnaaGreatDoor.Sx
open Go
attribute [local irreducible] Calls
theorem Sat.rdRow {cx:Cx} {β:Va} {n:Nat} {H:List Bk} {F:List Fact} {w:World} {e:TypeId} {A:Option Addr} {l:List UInt8} {c:Nat} (h:Sat cx β n H F w) (j:Nat) (hj:nth F j=some (browF e A l c)):Sat cx β n H (bsF A l::dropIx [j] 0 F) w:=by
 have q:takeIx F [j]=[browF e A l c]:=by simp only [takeIx,hj]
 refine h.fuse [j] (bsF A l) (fun w hm=>?_) (fun k hk=>?_) rfl (by rw [q];exact ⟨rfl,trivial⟩)
 ·rw [q] at hm
  exact z_an (hm.fact _ List.mem_cons_self)
 ·rw [q]
  obtain ⟨_,ad,h,rfl⟩:=hk
  cases h
  exact ⟨_,List.mem_cons_self,rfl⟩
theorem z_a3 {l:List Value} {n:Nat} (h:l.length=n+1): ∃a r,l=a::r/\r.length=n:=by
 cases l with
 | nil=>cases h
 | cons a r=>exact ⟨a,r,rfl,by simpa using h⟩
theorem cutC (w:World) (A:Option Addr) (l:List UInt8) (c k:Nat) (hr:Bs w A l) (hc:l.length<=c) (hn:k<=lim):
  Con Tryz.prog z_cl #[.slice A l.length c,.int .i64 k] w [] fun v Fs=> ∃A' c',v= .slice A' (l.take k).length c'/\(l.take k).length<=c'/\c'<=maxLen/\Fs=[browF z_ab A' (l.take k) c']:=z_tA (cut_c w A l c k hr hc hn)
theorem cut_D {A:Option Addr} {l m:List UInt8} {c i k:Nat} (hm:m.length<=l.length) (h:(bsF (cutA A c i 1) m).D k):(bsF A l).D k:=by
 obtain ⟨h0,ad,hA,rfl⟩:=h
 have h0':0<m.length*1:=h0
 unfold cutA at hA
 split at hA
 ·exact ⟨by show 0<l.length*1;omega,ad,hA,rfl⟩
 ·cases A with
  | none=>cases hA
  | some a=>
   have hA':a.add (i*1)=ad:=by simpa using hA
   exact ⟨by show 0<l.length*1;omega,a,rfl,by rw [<-hA'];unfold Addr.add;split<;>rfl⟩
theorem z_xk (op:BinOp) (x y:Int): ∃b:UInt8,bits op .u8 x y=(b.toNat:Int):=by
 have h: ∀z:Int,∃b:UInt8,IntKind.u8.wrap z=(b.toNat:Int):=fun z=>by
  refine ⟨UInt8.ofNat (z%256).toNat,?_⟩
  rw [UInt8.toNat_ofNat',wrap_u8]
  omega
 unfold bits
 split<;>exact h _
theorem z_rN {cx:Cx} {n:Nat} {env:Env} {H:List Bk} {F:List Fact} {c:Code} {Q:Exit->KT} {p:Prop} (h: ∀β w,Sat cx β n H F w->p) (k:p->Tri cx c Q n env H F):Tri cx c Q n env H F:=
 ⟨fun β a w hi=>(k (h β w hi.sat)).run β a w hi⟩
def cutP (url:Bool) (s:List UInt8):List UInt8:=match url with
 | true=>s
 | false=>unpad s
def decX (url:Bool) (s:List UInt8):Option (List UInt8):=match url with
 | true=>decU s
 | false=>decP s
theorem shr5 {X m:Nat} (hm:m<=5):((X:Int)).fdiv (2^min (5 - (m:Int)).toNat IntKind.i64.bits)=((X/2^(5 - m):Nat):Int):=by
 rw [show (5 - (m:Int)).toNat=5 - m by omega,show min (5 - m) IntKind.i64.bits=5 - m from Nat.min_eq_left (by show _<=64;omega),show ((2:Int)^(5 - m))=((2^(5 - m):Nat):Int) by simp]
 rw [Int.fdiv_eq_ediv_of_nonneg _ (Int.natCast_nonneg _)]
 rfl
theorem z_u3 {v m:Nat} (hm:m<=5):(rbits v)[m]?=some (u8n (v/2^(5 - m)%2)):=by
 match m,hm with
 | 0,_=>rfl
 | 1,_=>rfl
 | 2,_=>rfl
 | 3,_=>rfl
 | 4,_=>rfl
 | 5,_=>show some (u8n (v%2))=some (u8n (v/1%2));rw [Nat.div_one]
theorem z_oa: ∀ {l:List UInt8},l.length<8->chop l=([],l)
 | [],_=>rfl
 | [_],_=>rfl
 | [_,_],_=>rfl
 | [_,_,_],_=>rfl
 | [_,_,_,_],_=>rfl
 | [_,_,_,_,_],_=>rfl
 | [_,_,_,_,_,_],_=>rfl
 | [_,_,_,_,_,_,_],_=>rfl
 | _::_::_::_::_::_::_::_::_,h=>absurd h (by simp only [List.length_cons];omega)
theorem z_tN {l:List UInt8} (h:8<=l.length):chop l=(fold8 (l.take 8)::(chop (l.drop 8)).1,(chop (l.drop 8)).2):=by
 have:=chop8 (l.take 8) (by rw [List.length_take];omega) (l.drop 8)
 rwa [List.take_append_drop] at this
theorem z_sA {A:Option Addr} {c s:Nat}:cutA A c 0 s=A:=by
 cases A<;>simp [cutA,Addr.add]
theorem z_sC (l:List UInt8) (x:UInt8):fold8 (l++[x])=fold8 l*2+x:=by simp [fold8]
theorem z_ul {ι:Type} {cx:Cx} {c:Code} {Q:Exit->KT} {G:Prop} (T:ι->Prop) (n':Nat) (E:ι->Env) (HH:ι->List Bk) (FF:ι->List Fact) (body:(∀i,T i->Tri cx c Q n' (E i) (HH i) (FF i))->G) (hk: ∀i,T i->Tri cx c Q n' (E i) (HH i) (FF i)):G:=body hk
def DecT (url:Bool) (s:List UInt8) (n:Nat):Prop:=n=(cutP url s).length/\n<=s.length/\s.take n=cutP url s/\(url=false->s.length%4=0)/\(url=true->s.length%4≠1)
def decE (url:Bool) (s:List UInt8) (n:Nat):Env:=[(0,.c (.v (.string (mkS s)))),(1,.c (.v (.bool url))),(6,.c (.v (.int .i64 (n:Int))))]
theorem z_u1 (s:List UInt8) (h:s.length%4≠1):DecT true s s.length:=⟨rfl,Nat.le_refl _,List.take_length,(fun q=>by cases q),fun _=>h⟩
theorem z_t5 {s:List UInt8} {k:Nat} {b:UInt8} (hk:k+1=s.length) (hb:s[k]?=some b):s.getLast?=some b:=by
 rw [List.getLast?_eq_getElem?,<-hk]
 exact hb
theorem z_wy {s:List UInt8} (h:s.length%4=0) (hno:s.getLast?≠some 61):DecT false s s.length:=by
 have e:unpad s=s:=by unfold unpad;rw [if_neg hno]
 exact ⟨by show _=(unpad s).length;rw [e],Nat.le_refl _,by show _=unpad s;rw [e,List.take_length],fun _=>h,(fun q=>by cases q)⟩
theorem z_yj {s:List UInt8} (h:s.length%4=0) (h1:s.getLast?=some 61) (hno:s.dropLast.getLast?≠some 61):DecT false s (s.length - 1):=by
 have e:unpad s=s.dropLast:=by unfold unpad;rw [if_pos h1,if_neg hno]
 exact ⟨by show _=(unpad s).length;rw [e,List.length_dropLast],Nat.sub_le _ _,by show _=unpad s;rw [e,List.dropLast_eq_take],fun _=>h,(fun q=>by cases q)⟩
theorem z_yn {s:List UInt8} (h:s.length%4=0) (h1:s.getLast?=some 61) (h2:s.dropLast.getLast?=some 61):DecT false s (s.length - 1 - 1):=by
 have e:unpad s=s.dropLast.dropLast:=by unfold unpad;rw [if_pos h1,if_pos h2]
 refine ⟨by show _=(unpad s).length;rw [e,List.length_dropLast,List.length_dropLast],by omega,?_,fun _=>h,(fun q=>by cases q)⟩
 show _=unpad s
 rw [e,List.dropLast_eq_take,List.dropLast_eq_take,List.take_take,List.length_take]
 congr 1
 omega
theorem z_kZ (w:World) (s:List UInt8) (url:Bool) (hL:s.length<=1000000):Con Tryz.prog z_da #[.string (mkS s),.bool url] w [] (decOutP (decX url s)):=by
 have g:=z_fP w (Un [])
 refine z_d7 (cx:=z_bf w (Un [])) g z_hT rfl rfl (β:=Va.z) [.c (.v (.string (mkS s))),.c (.v (.bool url))] 0 [] [] rfl rfl (Sat.start rfl) ?_
 have hml:=maxLen_eq
 have hsz:=z_je s
 apply z_ul (cx:=z_bf w (Un [])) (DecT url s) 0 (decE url s) (fun _=>[]) (fun _=>[])
 ·intro hkey
  refine z_ao g ?_
  refine z_ao g ?_
  refine BIf.mk (fun hu:(!url)=true=>?_) (fun hu=>?_)
  ·have hu0:url=false:=by simpa using hu
   refine ⟨by first | decide | omega,?_⟩
   refine ⟨(((mkS s).size%4:Nat):Int),Int.ofNat_tmod _ _,?_⟩
   refine BIf.not (BIf.dec (fun h4=>?_) (fun h4=>?_))
   ·have h40:(((mkS s).size%4:Nat):Int)=0:=h4
    refine BIf.no hu0 ?_
    refine z_ao g ?_
    refine z_ao g ?_
    refine BIf.yes hu ?_
    refine BIf.dec (fun h0=>?_) (fun h0=>?_)
    ·have h00:(0:Int)<((mkS s).size:Int):=h0
     obtain ⟨b,hb, -⟩:=at_lt (show s.length - 1<s.length by omega)
     have hla:=z_t5 (k:=s.length - 1) (by omega) hb
     refine ⟨((((mkS s).size - 1):Nat):Int),by rw [wrap_i64 (by omega) (by omega)];omega,?_⟩
     refine ⟨(mkS s).size - 1,b,rfl,by rw [hsz];exact hb,?_⟩
     have hs4:s.length%4=0:=by omega
     refine BIf.dec (fun hb1=>?_) (fun hb1=>?_)
     ·obtain rfl:b=61:=UInt8.toNat_inj.1 (Int.ofNat_inj.1 hb1)
      obtain ⟨b2,hb2, -⟩:=at_lt (show s.length - 2<s.length by omega)
      have hla2:s.dropLast.getLast?=some b2:=z_t5 (k:=s.length - 2) (by rw [List.length_dropLast];omega) (by rw [List.getElem?_dropLast,if_pos (by omega)];exact hb2)
      refine ⟨((((mkS s).size - 1):Nat):Int),by rw [wrap_i64 (by omega) (by omega)];omega,?_⟩
      refine ⟨((((mkS s).size - 2):Nat):Int),by rw [wrap_i64 (by omega) (by omega)];omega,?_⟩
      refine ⟨(mkS s).size - 2,b2,rfl,by rw [hsz];exact hb2,?_⟩
      refine BIf.dec (fun hb3=>?_) (fun hb3=>?_)
      ·obtain rfl:b2=61:=UInt8.toNat_inj.1 (Int.ofNat_inj.1 hb3)
       refine ⟨((((s.length - 1 - 1):Nat)):Int),by rw [wrap_i64 (by omega) (by omega)];omega,?_⟩
       refine z_gG (ι:=Nat) (DecT url s) 0 (decE url s) (fun _=>[]) (fun _=>[]) hkey (EntX.of (s.length - 1 - 1) (by rw [hu0];exact z_yn hs4 hla hla2) (Ent.mk' ⟨rfl,rfl,rfl,trivial⟩ rfl (fun β w' hs=>hs)))
      ·have hb30:b2≠61:=fun q=>hb3 (by rw [q];rfl)
       rw [hsz]
       refine z_gG (ι:=Nat) (DecT url s) 0 (decE url s) (fun _=>[]) (fun _=>[]) hkey (EntX.of (s.length - 1) (by rw [hu0];exact z_yj hs4 hla (by rw [hla2];intro q;cases q;exact hb30 rfl)) (Ent.mk' ⟨rfl,rfl,rfl,trivial⟩ rfl (fun β w' hs=>hs)))
     ·have hb10:b≠61:=fun q=>hb1 (by rw [q];rfl)
      refine z_gG (ι:=Nat) (DecT url s) 0 (decE url s) (fun _=>[]) (fun _=>[]) hkey (EntX.of (s.length) (by rw [hu0];exact z_wy hs4 (by rw [hla];intro q;cases q;exact hb10 rfl)) (Ent.mk' ⟨rfl,rfl,rfl,trivial⟩ rfl (fun β w' hs=>hs)))
    ·have h00: ¬(0:Int)<((mkS s).size:Int):=h0
     have hs0:s=[]:=List.length_eq_zero_iff.1 (by omega)
     refine z_gG (ι:=Nat) (DecT url s) 0 (decE url s) (fun _=>[]) (fun _=>[]) hkey (EntX.of s.length (by rw [hu0];exact z_wy (by omega) (by rw [hs0];decide)) (Ent.mk' ⟨rfl,rfl,rfl,trivial⟩ rfl (fun β w' hs=>hs)))
   ·have h40: ¬(((mkS s).size%4:Nat):Int)=0:=h4
    intro β w' hs
    refine (hs.nilRow z_ab 1).fin [0] ⟨none,[],0,2,rfl,.inr ⟨by decide,?_⟩,Nat.le_refl _,rfl⟩
    rw [hu0]
    show decP s=none
    unfold decP
    rw [if_pos (by omega)]
  ·have hu0:url=true:=by simpa using hu
   refine BIf.mk (fun hu2=>?_) (fun hu2=>absurd (hu2.symm.trans hu0) (by decide))
   refine ⟨by first | decide | omega,?_⟩
   refine ⟨(((mkS s).size%4:Nat):Int),Int.ofNat_tmod _ _,?_⟩
   refine BIf.dec (fun h1=>?_) (fun h1=>?_)
   ·have h10:(((mkS s).size%4:Nat):Int)=1:=h1
    intro β w' hs
    refine (hs.nilRow z_ab 1).fin [0] ⟨none,[],0,2,rfl,.inr ⟨by decide,?_⟩,Nat.le_refl _,rfl⟩
    rw [hu0]
    show decU s=none
    unfold decU
    rw [if_pos (by omega)]
   ·have h10: ¬(((mkS s).size%4:Nat):Int)=1:=h1
    refine z_ao g ?_
    refine z_ao g ?_
    refine BIf.no hu ?_
    refine z_gG (ι:=Nat) (DecT url s) 0 (decE url s) (fun _=>[]) (fun _=>[]) hkey (EntX.of s.length (by rw [hu0];exact z_u1 s (by omega)) (Ent.mk' ⟨rfl,rfl,rfl,trivial⟩ rfl (fun β w' hs=>hs)))
 ·rintro n ⟨hn1,hn2,hn3,hn4,hn5⟩
  refine z_eT g ?_
  refine ⟨by first | decide | omega,?_⟩
  refine ⟨((n%4:Nat):Int),Int.ofNat_tmod _ _,?_⟩
  refine BIf.dec (fun h1=>?_) (fun h1=>?_)
  ·have h10:((n%4:Nat):Int)=1:=h1
   intro β w' hs
   refine (hs.nilRow z_ab 1).fin [0] ⟨none,[],0,5,rfl,.inr ⟨by decide,?_⟩,Nat.le_refl _,rfl⟩
   cases url with
   | true=>
    have h2:=hn5 rfl
    have h3:n=s.length:=hn1
    omega
   | false=>
    have h3:n=(unpad s).length:=hn1
    show decP s=none
    unfold decP
    rw [if_neg (by have:=hn4 rfl;omega),if_pos (by omega)]
  ·have h10: ¬((n%4:Nat):Int)=1:=h1
   have hdx:decX url s=decS url (cutP url s):=by
    cases url with
    | true=>
     show decU s=_
     unfold decU
     rw [if_neg (hn5 rfl)]
     rfl
    | false=>
     have h3:n=(unpad s).length:=hn1
     show decP s=_
     unfold decP
     rw [if_neg (by have:=hn4 rfl;omega),if_neg (by omega)]
     rfl
   rw [hdx,<-hn3]
   obtain ⟨U,hU⟩: ∃U,s.take n=U:=⟨_,rfl⟩
   have hUl:U.length=n:=by rw [<-hU,List.length_take];omega
   have hUat: ∀i,i<n->s[i]?=U[i]?:=fun i hi=>by rw [<-hU,List.getElem?_take,if_pos hi]
   rw [hU]
   refine z_ai (ι:=Nat×Option Addr×Nat×List Nat) 0 (fun j=>[(0,.c (.v (.string (mkS s)))),(1,.c (.v (.bool url))),(6,.c (.v (.int .i64 (n:Int)))),(7,.c (.v (.slice j.2.1 (j.2.2.2.flatMap rbits).length j.2.2.1))),(8,.c (.v (.int .i64 (j.1:Int))))]) (fun _=>[]) (fun j=>[browF z_ab j.2.1 (j.2.2.2.flatMap rbits) j.2.2.1])
    (fun j=>j.1<=n/\valsA url (U.take j.1)=some j.2.2.2) (fun j=>n - j.1) (0,none,0,[]) ⟨Nat.zero_le _,rfl⟩ (Ent.mk' ⟨rfl,rfl,rfl,rfl,rfl,trivial⟩ rfl (fun β w' hs=>hs.nilRow z_ab 1)) g ?_
   rintro ⟨i,A,c,vs⟩ ⟨hi,hvs⟩
   simp only at hi hvs
   have hvl:=z_eD hvs
   have hvl1:vs.length=i:=by rw [hvl.1,List.length_take];omega
   have hbl:(vs.flatMap rbits).length=6*i:=by
    rw [<-hvl1]
    clear hvl hvl1 hvs
    induction vs with
    | nil=>rfl
    | cons a r ih=>rw [List.flatMap_cons,List.length_append,ih,List.length_cons];simp [rbits];omega
   refine BIf.dec (fun hlt=>?_) (fun hge=>?_)
   ·have hlt0:(i:Int)<(n:Int):=hlt
    obtain ⟨y,hy,hyU⟩:=at_lt (show i<U.length by omega)
    refine ⟨i,y,rfl,by show s[i]?=_;rw [hUat i (by omega)];exact hy,?_⟩
    refine z_ae (fun β w' hs=>z_sR w' y url) ?_
    cases hv:valA url y with
    | none=>
     have hvv:valV url y= -1:=by unfold valV;rw [hv]
     rw [hvv]
     intro β w' hs
     refine (hs.nilRow z_ab 1).fin [0] ⟨none,[],0,5,rfl,.inr ⟨by decide,?_⟩,Nat.le_refl _,rfl⟩
     unfold decS
     rw [z_lq hv hyU]
     rfl
    | some v=>
     have hvv:valV url y=(v:Int):=by unfold valV;rw [hv]
     have hv64:=z_qK hv
     rw [hvv]
     have hrl:(rbits v).length=6:=rfl
     refine z_ai (ι:=Option Addr×Nat×Nat) 0 (fun j=>[(0,.c (.v (.string (mkS s)))),(1,.c (.v (.bool url))),(6,.c (.v (.int .i64 (n:Int)))),(7,.c (.v (.slice j.1 (vs.flatMap rbits++(rbits v).take j.2.2).length j.2.1))),(8,.c (.v (.int .i64 (i:Int)))),(9,.c (.v (.int .i64 (v:Int)))),(10,.c (.v (.int .i64 (5 - (j.2.2:Int)))))]) (fun _=>[]) (fun j=>[browF z_ab j.1 (vs.flatMap rbits++(rbits v).take j.2.2) j.2.1])
      (fun j=>j.2.2<=6) (fun j=>6 - j.2.2) (A,c,0) (Nat.zero_le _) (Ent.mk' ⟨rfl,rfl,rfl,by simp only [List.take_zero,List.append_nil];rfl,rfl,rfl,rfl,trivial⟩ rfl (fun β w' hs=>by simp only [List.take_zero,List.append_nil];exact hs)) g ?_
     rintro ⟨A1,c1,m⟩ hm
     simp only at hm
     refine BIf.dec (fun hlt2=>?_) (fun hge2=>?_)
     ·have hlt20:(5 - (m:Int))>=0:=hlt2
      refine ⟨by first | decide | omega,?_⟩
      refine ⟨((v/2^(5 - m):Nat):Int),shr5 (by omega),?_⟩
      have hvd:v/2^(5 - m)<64:=Nat.lt_of_le_of_lt (Nat.div_le_self _ _) hv64
      refine ⟨((v/2^(5 - m)%2:Nat):Int),z_qA (k:=1) (by omega) (by decide),?_⟩
      refine ⟨((u8n (v/2^(5 - m)%2)).toNat:Int),z_gb _,?_⟩
      intro b1
      obtain ⟨B,hB⟩: ∃B,B=vs.flatMap rbits++(rbits v).take m:=⟨_,rfl⟩
      have hBn:vs.flatMap rbits++(rbits v).take (m+1)=B++[u8n (v/2^(5 - m)%2)]:=by
       rw [hB,List.take_add_one,z_u3 (by omega),List.append_assoc]
       rfl
      have hBl:B.length=6*i+m:=by rw [hB,List.length_append,hbl,List.length_take,hrl];omega
      rw [<-hB]
      obtain ⟨B2,hB2⟩: ∃B2,B2=B++[u8n (v/2^(5 - m)%2)]:=⟨_,rfl⟩
      have hB2l:B.length+1=B2.length:=by rw [hB2,List.length_append];rfl
      rw [<-hB2] at hBn
      refine ⟨1,B.length,B2.length,B.map byte,[u8n (v/2^(5 - m)%2)].map byte,B2.map byte,rfl,fun β w' hs=>z_an (hs.get 0 rfl),z_ap _,hB2l,by rw [hB2,List.map_append],by rw [hml];omega,by show B2.length*1<=_;omega,?_⟩
      intro A2 c2 r1 r2 r3
      refine ⟨_,wrap_i64 (by omega) (by omega),?_⟩
      have e5:(5 - (m:Int) - 1)=5 - ((m+1:Nat):Int):=by omega
      refine ⟨(A2,c2,m+1),by show m+1<=6;omega,by show 6 - (m+1)<6 - m;omega,?_⟩
      simp only [hBn]
      exact Ent.mk' ⟨rfl,rfl,rfl,rfl,rfl,rfl,by rw [<-e5];rfl,trivial⟩ rfl (fun β w' hs=>hs.perm [1])
     ·have hge20: ¬(5 - (m:Int))>=0:=hge2
      obtain rfl:m=6:=by omega
      refine ⟨(((i+1):Nat):Int),by rw [wrap_i64 (by omega) (by omega)];rfl,?_⟩
      have hnx:(vs++[v]).flatMap rbits=vs.flatMap rbits++(rbits v).take 6:=by rw [List.flatMap_append,List.take_of_length_le (Nat.le_of_eq hrl)];simp
      refine ⟨(i+1,A1,c1,vs++[v]),⟨by show i+1<=n;omega,?_⟩,by show n - (i+1)<n - i;omega,?_⟩
      ·show valsA url (U.take (i+1))=some (vs++[v])
       rw [List.take_add_one,hy,z_kw,hvs]
       show (match (some vs),(valsA url [y]) with | some x,some y=>some (x++y) | _,_=>none)=_
       have:valsA url [y]=some [v]:=by unfold valsA;rw [hv];rfl
       rw [this]
      ·simp only [hnx]
       exact Ent.mk' ⟨rfl,rfl,rfl,rfl,rfl,trivial⟩ rfl (fun β w' hs=>hs)
   ·have hge0: ¬(i:Int)<(n:Int):=hge
    obtain rfl:i=n:=by omega
    rw [List.take_of_length_le (by omega)] at hvs
    have hdS:decS url U=refG vs:=by
     unfold decS
     rw [hvs]
     exact (z_tK vs (fun v hv=>hvl.2 v hv) (by omega)).symm
    rw [hdS]
    obtain ⟨bits,hbits⟩: ∃bits,vs.flatMap rbits=bits:=⟨_,rfl⟩
    have hrG:refG vs=if (chop bits).2.all (fun x=>decide (x=0)) then some (chop bits).1 else none:=by unfold refG;rw [hbits]
    rw [hrG]
    rw [hbits] at hbl ⊢
    refine z_rN (p:=bits.length<=c/\(0<bits.length-> ∃ad,A=some ad)) (fun β w' hs=>⟨z_ir (hs.get 0 rfl),fun h=>Bs.addr (show Bs w' A bits from z_an (hs.get 0 rfl)) h⟩) ?_
    rintro ⟨hcap,hadr⟩
    refine z_ai (ι:=(Option Addr×Nat×List UInt8)×(Option Addr×Nat×List UInt8)) 0 (fun j=>[(7,.c (.v (.slice j.2.1 j.2.2.2.length j.2.2.1))),(11,.c (.v (.slice j.1.1 j.1.2.2.length j.1.2.1)))]) (fun _=>[]) (fun j=>[browF z_ab j.1.1 j.1.2.2 j.1.2.1,bsF j.2.1 j.2.2.2])
     (fun j=>chop bits=(j.1.2.2++(chop j.2.2.2).1,(chop j.2.2.2).2)/\j.2.2.2.length<=j.2.2.1/\8*j.1.2.2.length+j.2.2.2.length=bits.length/\(0<j.2.2.2.length-> ∃ad,j.2.1=some ad)) (fun j=>j.2.2.2.length) ((none,0,[]),(A,c,bits)) ⟨rfl,hcap,by simp,hadr⟩ (Ent.mk' ⟨rfl,rfl,trivial⟩ rfl (fun β w' hs=>((hs.nilRow z_ab 1).rdRow 1 rfl).perm [1,0])) g ?_
    rintro ⟨⟨O,oc,out⟩,⟨A3,c3,rem⟩⟩ ⟨hch,hcap3,hlen3,hadr3⟩
    simp only at hch hcap3 hlen3 hadr3
    refine BIf.dec (fun hlt=>?_) (fun hge=>?_)
    ·have hlt0:(rem.length:Int)>=8:=hlt
     obtain ⟨ad,hAd⟩: ∃ad,A3=some ad:=hadr3 (by omega)
     refine ⟨c3,8,0,8,c3,A3,rfl,rfl,rfl,Nat.le_refl _,by omega,Nat.zero_le _,rfl,rfl,z_sA,?_⟩
     refine z_ai (ι:=Nat×UInt8) 0 (fun j=>[(7,.c (.v (.slice A3 rem.length c3))),(11,.c (.v (.slice O out.length oc))),(12,.c (.v (byte j.2))),(89,.c (.v (.slice A3 8 c3))),(90,.c (.v (.int .i64 8))),(91,.c (.v (.int .i64 (j.1:Int))))]) (fun _=>[]) (fun j=>[browF z_ab O out oc,bsF A3 rem])
      (fun j=>j.1<=8/\j.2=fold8 (rem.take j.1)) (fun j=>8 - j.1) (0,0) ⟨Nat.zero_le _,rfl⟩ (Ent.mk' ⟨rfl,rfl,rfl,rfl,rfl,rfl,trivial⟩ rfl (fun β w' hs=>hs)) g ?_
     rintro ⟨i2,b⟩ ⟨hi2,hb⟩
     simp only at hi2 hb
     refine BIf.dec (fun hlt2=>?_) (fun hge2=>?_)
     ·have hlt20:(i2:Int)<8:=hlt2
      obtain ⟨z,hz, -⟩:=at_lt (show i2<rem.length by omega)
      refine ⟨ad,i2,hAd,rfl,by omega,?_⟩
      refine ⟨byte z,fun β w' hs=>Rd.cell1 (show Rd 1 (some ad) rem.length (rem.map byte) w' from hAd▸hs.get 1 rfl) (by rw [List.getElem?_map,hz];rfl),?_⟩
      refine ⟨((b*2:UInt8).toNat:Int),by rw [IntKind.wrap_u8,UInt8.toNat_mul];show ((b.toNat:Int)*2)%256=((b.toNat *2%256:Nat):Int);omega,?_⟩
      refine ⟨((b*2+z:UInt8).toNat:Int),by rw [IntKind.wrap_u8,UInt8.toNat_add];show (((b*2:UInt8).toNat:Int)+(z.toNat:Int))%256=(((b*2:UInt8).toNat+z.toNat)%256:Nat);omega,?_⟩
      refine ⟨((i2+1:Nat):Int),by rw [wrap_i64 (by omega) (by omega)];rfl,?_⟩
      exact ⟨(i2+1,b*2+z),⟨by show i2+1<=8;omega,by show b*2+z=fold8 (rem.take (i2+1));rw [List.take_add_one,hz,hb];exact (z_sC _ _).symm⟩,by show 8 - (i2+1)<8 - i2;omega,Ent.mk' ⟨rfl,rfl,rfl,rfl,rfl,rfl,trivial⟩ rfl (fun β w' hs=>hs)⟩
     ·have hge20: ¬(i2:Int)<8:=hge2
      obtain rfl:i2=8:=by omega
      refine z_aj g z_fX (by kernel_rfl) [] [] (Sub.of (List.Sublist.refl _) (List.nil_sublist _)) ?_
      refine ⟨c3,rem.length,8,rem.length - 8,c3 - 8,_,rfl,rfl,rfl,Nat.le_refl _,hcap3,by omega,rfl,rfl,rfl,?_⟩
      intro b3
      refine ⟨subPerm [],?_⟩
      obtain ⟨out2,hout2⟩: ∃out2,out2=out++[b]:=⟨_,rfl⟩
      have hol:out.length+1=out2.length:=by rw [hout2,List.length_append];rfl
      refine ⟨1,out.length,out2.length,out.map byte,[b].map byte,out2.map byte,rfl,fun β w' hs=>z_an (hs.get 0 rfl),z_ap _,hol,by rw [hout2,List.map_append],by rw [hml];omega,by show out2.length*1<=_;omega,?_⟩
      intro O2 oc2 r1 r2 r3
      refine ⟨subPerm [],?_⟩
      have hrl8:(rem.drop 8).length=rem.length - 8:=List.length_drop ..
      have hcl:=z_tN (l:=rem) (by omega)
      refine ⟨((O2,oc2,out2),(cutA A3 c3 8 1,c3 - 8,rem.drop 8)),⟨?_,by show (rem.drop 8).length<=c3 - 8;omega,by show 8*out2.length+(rem.drop 8).length=_;omega,fun _=>?_⟩,by show (rem.drop 8).length<rem.length;omega,?_⟩
      ·show chop bits=(out2++(chop (rem.drop 8)).1,(chop (rem.drop 8)).2)
       rw [hch,hcl,hout2,hb,List.append_assoc]
       rfl
      ·show∃ad,cutA A3 c3 8 1=some ad
       rw [hAd]
       unfold cutA
       split<;>exact ⟨_,rfl⟩
      ·simp only [hrl8]
       exact Ent.mk' ⟨rfl,rfl,trivial⟩ rfl (fun β w' hs=>(hs.sub 2 rfl rfl (bsF (cutA A3 c3 8 1) (rem.drop 8)) rfl (by
        have h:=Bs.cutB (show Bs _ A3 rem from hs.get 2 rfl) (i:=8) (j:=rem.length) hcap3 (by omega) (Nat.le_refl _) (List.take_of_length_le (Nat.le_of_eq hrl8))
        exact h) (fun k hk=>cut_D (by omega) hk)).perm [2,0])
    ·have hge0: ¬(rem.length:Int)>=8:=hge
     refine z_ai (ι:=Nat) 0 (fun j=>[(11,.c (.v (.slice O out.length oc))),(106,.c (.v (.slice A3 rem.length c3))),(107,.c (.v (.int .i64 (rem.length:Int)))),(108,.c (.v (.int .i64 (j:Int))))]) (fun _=>[]) (fun j=>[browF z_ab O out oc,bsF A3 rem])
      (fun j=>j<=rem.length/\(rem.take j).all (fun x=>decide (x=0))=true) (fun j=>rem.length - j) (0:Nat) ⟨Nat.zero_le _,rfl⟩ (Ent.mk' ⟨rfl,rfl,rfl,rfl,trivial⟩ rfl (fun β w' hs=>hs)) g ?_
     rintro j ⟨hj,hz0⟩
     refine BIf.dec (fun hlt2=>?_) (fun hge2=>?_)
     ·have hlt20:(j:Int)<(rem.length:Int):=hlt2
      obtain ⟨ad,hAd⟩:=hadr3 (by omega)
      obtain ⟨z,hz,hzm⟩:=at_lt (show j<rem.length by omega)
      refine ⟨ad,j,hAd,rfl,by omega,?_⟩
      refine ⟨byte z,fun β w' hs=>Rd.cell1 (show Rd 1 (some ad) rem.length (rem.map byte) w' from hAd▸hs.get 1 rfl) (by rw [List.getElem?_map,hz];rfl),?_⟩
      refine BIf.not (BIf.dec (fun he=>?_) (fun hne=>?_))
      ·obtain rfl:z=0:=UInt8.toNat_inj.1 (Int.ofNat_inj.1 he)
       refine ⟨((j+1:Nat):Int),by rw [wrap_i64 (by omega) (by omega)];rfl,?_⟩
       exact ⟨j+1,⟨by omega,by rw [List.take_add_one,hz,List.all_append,hz0];rfl⟩,by omega,Ent.mk' ⟨rfl,rfl,rfl,rfl,trivial⟩ rfl (fun β w' hs=>hs)⟩
      ·have hz1:z≠0:=fun q=>hne (by rw [q];rfl)
       intro β w' hs
       refine (hs.nilRow z_ab 1).fin [0] ⟨none,[],0,4,rfl,.inr ⟨by decide,?_⟩,Nat.le_refl _,rfl⟩
       rw [hch,z_oa (l:=rem) (by omega),if_neg]
       intro q
       exact hz1 (of_decide_eq_true (List.all_eq_true.1 q z hzm))
     ·have hge20: ¬(j:Int)<(rem.length:Int):=hge2
      rw [List.take_of_length_le (by omega)] at hz0
      intro β w' hs
      refine hs.fin [0] ⟨O,out,oc,0,rfl,.inl ⟨rfl,?_⟩,z_ir (hs.get 0 rfl),rfl⟩
      rw [hch,z_oa (l:=rem) (by omega),if_pos hz0,List.append_nil]
theorem z_k7 {c:UInt8} {v:Nat} (h:digA c=some v):v<16:=by
 unfold digA at h
 split at h
 ·injection h;omega
 ·split at h
  ·injection h;omega
  ·cases h
theorem z_yK (c:UInt8):_root_.Go.Lib.indexByte [48,49,50,51,52,53,54,55,56,57,97,98,99,100,101,102] c=match digA c with | some v=>(v:Int) | none=> -1:=by
 have h: ∀n:_root_.Fin 256,_root_.Go.Lib.indexByte [48,49,50,51,52,53,54,55,56,57,97,98,99,100,101,102] (UInt8.ofNat n.val)=match digA (UInt8.ofNat n.val) with | some v=>(v:Int) | none=> -1:=by decide+kernel
 have h1:=h ⟨c.toNat,c.toNat_lt⟩
 simpa using h1
def digV (c:UInt8):Int:=match digA c with | some v=>(v:Int) | none=> -1
theorem z_wc (w:World) (c:UInt8):Pu Tryz.prog z_jB #[.string ⟨#[48,49,50,51,52,53,54,55,56,57,97,98,99,100,101,102]⟩,.int .u8 c.toNat] w (.int .i64 (digV c)):=by
 refine pu_of (Calls.mono (Tryz.strings_IndexByte ⟨#[48,49,50,51,52,53,54,55,56,57,97,98,99,100,101,102]⟩ c.toNat w) ?_)
 rintro e w' ⟨rfl,rfl⟩
 refine ⟨_,rfl,?_,Chg.refl _ _⟩
 unfold digV
 rw [<-z_yK]
 show Value.int .i64 (_root_.Go.Lib.indexByte _ ((c.toNat:Int).toNat.toUInt8))=_
 rw [Int.toNat_natCast,show c.toNat.toUInt8=c from UInt8.ofNat_toNat]
theorem z_wW {x y:Nat} (hx:x<33554432) (hy:y<16):bits .or .i64 ((x*16:Nat):Int) (y:Int)=((x*16+y:Nat):Int):=by
 show IntKind.i64.wrap (((BitVec.ofInt 64 ((x*16:Nat):Int)) ||| (BitVec.ofInt 64 (y:Int))).toNat:Int)=_
 have h1:(BitVec.ofInt 64 ((x*16:Nat):Int)).toNat=x<<<4:=by
  rw [BitVec.toNat_ofInt,Nat.shiftLeft_eq]
  omega
 have h2:(BitVec.ofInt 64 (y:Int)).toNat=y:=by
  rw [BitVec.toNat_ofInt]
  omega
 rw [BitVec.toNat_or,h1,h2,<-Nat.shiftLeft_add_eq_or_of_lt (by omega) x,Nat.shiftLeft_eq,wrap_i64 (by omega) (by omega)]
theorem z_lb: ∀(a b:List UInt8),a.length%2=0->unhexA (a++b)=match unhexA a,unhexA b with | some x,some y=>some (x++y) | _,_=>none
 | [],b,_=>by rw [List.nil_append];cases h:unhexA b<;>simp [unhexA,h]
 | [_],b,h=>by simp at h
 | x::y::r,b,h=>by
  have h1:=z_lb r b (by simp only [List.length_cons] at h;omega)
  simp only [List.cons_append,unhexA,h1]
  cases digA x<;>cases digA y<;>cases unhexA r<;>cases unhexA b<;>simp
theorem z_iq (b c:UInt8): ∀(a d:List UInt8),a.length%2=0->(digA b=none\/digA c=none)->unhexA (a++b::c::d)=none
 | [],d,_,h=>by
  simp only [List.nil_append,unhexA]
  rcases h with h | h
  ·rw [h]
  ·rw [h];cases digA b<;>rfl
 | [_],d,h,_=>by simp at h
 | x::y::r,d,h,hb=>by
  have h1:=z_iq b c r d (by simp only [List.length_cons] at h;omega) hb
  simp only [List.cons_append,unhexA,h1]
  cases digA x<;>cases digA y<;>rfl
theorem z_lh: ∀l:List UInt8,l.length%2=1->unhexA l=none
 | [],h=>by simp at h
 | [_],_=>rfl
 | a::b::r,h=>by
  simp only [unhexA,z_lh r (by simp only [List.length_cons] at h;omega)]
  cases digA a<;>cases digA b<;>rfl
theorem z_qr (w:World) (s0:List UInt8) (hL:s0.length<=1000000):Con Tryz.prog z_mE #[.string (mkS s0)] w [] (decOutP (unhexA s0)):=by
 have g:=z_n2 w (Un [])
 have hml:=maxLen_eq
 have hsz:=z_je s0
 refine z_ac (cx:=z_lU w (Un [])) g z_qt rfl rfl (β:=Va.z) [.c (.v (.string (mkS s0)))] 0 [] [] rfl rfl (Sat.start rfl) ?_
 refine ⟨by first | decide | omega,?_⟩
 refine ⟨(((mkS s0).size%2:Nat):Int),Int.ofNat_tmod _ _,?_⟩
 refine BIf.not (BIf.dec (fun h0=>?_) (fun h0=>?_))
 ·have h00:(((mkS s0).size%2:Nat):Int)=0:=h0
  refine z_aa [] (fun β w' hs=>z_rq w' (mkS s0) 2) ?_
  rintro v Fs ⟨bs,bk,rfl,rfl⟩
  obtain ⟨L,hLd⟩: ∃L,(piecesA 1 s0).map mkS=L:=⟨_,rfl⟩
  have hLL:L.length<=1000000:=by
   have h:=z_lc 1 _ s0 (Nat.le_refl _)
   rw [<-hLd,List.length_map]
   omega
  refine z_aG (α:=ByteArray) (ι:=List UInt8×Option Addr×Nat) (κ:=Unit) g rfl (cv:=[.pointer (some ⟨bs,0,none⟩),.pointer (some ⟨bk,0,none⟩)]) rfl (by kernel_rfl) 3 (Nat.le_refl 3)
   (fun pre i=>pre=L.take pre.length/\unhexA (pre.map (·.data.toList)).flatten=some i.1/\i.1.length<=pre.length) (fun i=>[⟨2,z_al,[.v (.slice i.2.1 i.1.length i.2.2)]⟩,⟨1,z_av,[.v (.int .i64 0)]⟩,⟨0,z_al,[.v (.slice none 0 0)]⟩]) (fun i=>[browF z_ab i.2.1 i.1 i.2.2]) (fun i=>⟨rfl,trivial⟩)
   (fun e pre _=>e= .ret/\unhexA s0=none) (fun _=>[⟨1,z_av,[.v (.int .i64 5)]⟩,⟨0,z_al,[.v (.slice none 0 0)]⟩]) (fun _=>[]) (fun _=>trivial)
   [bkF bs z_ag [.string (mkS s0)],bkF bk z_fy [.int .i64 2]] [] [] ⟨rfl,rfl,trivial⟩ (fun g h=>by cases h) ([],none,0) ⟨rfl,rfl,Nat.le_refl _⟩
   (fun β w hs=>⟨β,Agr.refl _ _,(hs.nilRow z_ab 1).perm [1,2,0]⟩) (insS L)
   (fun xs Fs'=>xs=L/\Fs'=[]) (fun _ Fs'=>Fs'=[])
   (fun l w f0 R J Jx hJ0 hJo hRo hY hm=>by
    have h:=z_wq l w bs bk 1 s0 f0 R J Jx 2 rfl (by decide) (by omega) hJ0 hJo hRo (by rw [hLd];exact hY) hm
    rw [hLd] at h
    exact h) ?_ ?_ ?_
  ·rintro ⟨out,A,c⟩ pre x args X W S' lb bs' pn pn' hbs ⟨hpre,hun,hlen⟩ ⟨rfl,rfl,hx⟩
   obtain ⟨cs,hcs,rfl⟩: ∃cs,(piecesA 1 s0)[pre.length]?=some cs/\x=mkS cs:=by
    rw [<-hLd,List.getElem?_map] at hx
    obtain ⟨cs,h1,h2⟩:=Option.map_eq_some_iff.1 hx
    exact ⟨cs,h1,h2.symm⟩
   obtain ⟨p1,p2,p3⟩:=z_ny 1 _ _ _ hcs
   have hpf:(pre.map (·.data.toList)).flatten=s0.take (2*pre.length):=by
    conv=>lhs;rw [hpre]
    rw [<-hLd,<-List.map_take,List.map_map,show ((fun b:ByteArray=>b.data.toList)∘mkS)=id from funext fun l=>by simp [mkS],List.map_id]
    exact p3
   simp only at hun hlen
   have hun0:=hun
   rw [hpf] at hun
   have hcl:cs.length=2:=by rw [p1,List.length_take,List.length_drop];omega
   obtain ⟨ca,cb,rfl⟩: ∃a b,cs=[a,b]:=by
    match cs,hcl with
    | [a,b],_=>exact ⟨a,b,rfl⟩
   have hdm:(mkS [ca,cb]).data.toList=[ca,cb]:=by simp [mkS]
   have hcz:(mkS [ca,cb]).size=2:=rfl
   have hs0:s0=s0.take (2*pre.length)++ca::cb::(s0.drop (2*pre.length)).drop 2:=by
    have h1:[ca,cb]++(s0.drop (2*pre.length)).drop 2=s0.drop (2*pre.length):=by
     rw [p1];exact List.take_append_drop _ _
    have h2:=List.take_append_drop (2*pre.length) s0
    rw [<-h1] at h2
    exact h2.symm
   refine ⟨_,rfl,?_⟩
   intro b1
   intro b2
   intro q1
   intro q2
   refine z_ai (ι:=Nat×Nat) 3 (fun j=>[(2,.c (.p 0 0)),(3,.c (.p 1 0)),(4,.c (.p 2 0)),(6,.c (.v (.int .i64 (j.2:Int)))),(18,.c (.v (.slice (some ⟨b1,0,none⟩) (mkS [ca,cb]).size b2))),(19,.c (.v (.int .i64 ((mkS [ca,cb]).size:Int)))),(20,.c (.v (.int .i64 (j.1:Int))))])
    (fun _=>[⟨2,z_al,[.v (.slice A out.length c)]⟩,⟨1,z_av,[.v (.int .i64 0)]⟩,⟨0,z_al,[.v (.slice none 0 0)]⟩]) (fun _=>[rdoF 1 (some ⟨b1,0,none⟩) (mkS [ca,cb]).size ((mkS [ca,cb]).data.toList.map byte),browF z_ab A out c])
    (fun j=>(j.1=0/\j.2=0)\/(j.1=1/\digA ca=some j.2)\/(j.1=2/\ ∃x y,digA ca=some x/\digA cb=some y/\j.2=x*16+y)) (fun j=>2 - j.1) (0,0) (.inl ⟨rfl,rfl⟩) (Ent.mk' ⟨rfl,rfl,rfl,rfl,rfl,rfl,rfl,trivial⟩ rfl (fun β w' hs=>hs.perm [0,2])) (z_bD g) ?_
   rintro ⟨j,N⟩ hj
   simp only at hj
   have hbad:digA ca=none\/digA cb=none->unhexA s0=none:=fun h=>by
    rw [hs0]
    exact z_iq ca cb _ _ (by rw [List.length_take];omega) h
   refine BIf.dec (fun hlt=>?_) (fun hge=>?_)
   ·have hlt0:(j:Int)<((mkS [ca,cb]).size:Int):=hlt
    obtain ⟨y,hy,hyb⟩: ∃y,[ca,cb][j]?=some y/\(j=0/\y=ca/\N=0\/j=1/\y=cb/\digA ca=some N):=by
     rcases hj with ⟨h1,h2⟩ | ⟨h1,h2⟩ | ⟨h1,_⟩
     ·exact ⟨ca,by rw [h1];rfl,.inl ⟨h1,rfl,h2⟩⟩
     ·exact ⟨cb,by rw [h1];rfl,.inr ⟨h1,rfl,h2⟩⟩
     ·omega
    refine ⟨_,j,rfl,rfl,by omega,?_⟩
    refine ⟨byte y,fun β w' hs=>Rd.cell1 (show Rd 1 (some ⟨b1,0,none⟩) (mkS [ca,cb]).size ((mkS [ca,cb]).data.toList.map byte) w' from hs.get 0 rfl) (by rw [hdm,List.getElem?_map,hy];rfl),?_⟩
    refine z_ae (fun β w' hs=>z_wc w' y) ?_
    unfold digV
    cases hdy:digA y with
    | none=>
     refine ⟨(),⟨rfl,hbad ?_⟩,Ent.mk' trivial rfl (fun β w hs=>((hs.keepB (List.sublist_cons_self _ _)).perm []).lower)⟩
     rcases hyb with ⟨_,q,_⟩ | ⟨_,q,_⟩
     ·exact .inl (by rw [<-q];exact hdy)
     ·exact .inr (by rw [<-q];exact hdy)
    | some v=>
     have hv:=z_k7 hdy
     have hN16:N<16:=by
      rcases hyb with ⟨_,_,q⟩ | ⟨_,_,q⟩
      ·omega
      ·exact z_k7 q
     refine ⟨by first | decide | omega,((N*16:Nat):Int),?_,?_⟩
     ·rw [show min (4:Int).toNat IntKind.i64.bits=4 from rfl,wrap_i64 (by omega) (by omega)];omega
     refine ⟨((N*16+v:Nat):Int),z_wW (by omega) hv,?_⟩
     refine ⟨((j+1:Nat):Int),by rw [wrap_i64 (by omega) (by omega)];rfl,?_⟩
     refine ⟨(j+1,N*16+v),?_,by show 2 - (j+1)<2 - j;omega,Ent.same ⟨rfl,rfl,rfl,rfl,rfl,rfl,rfl,trivial⟩ rfl⟩
     rcases hyb with ⟨q1,q2,q3⟩ | ⟨q1,q2,q3⟩
     ·exact .inr (.inl ⟨by show j+1=1;omega,by show digA ca=some (N*16+v);rw [<-q2,hdy,q3,Nat.zero_mul,Nat.zero_add]⟩)
     ·exact .inr (.inr ⟨by show j+1=2;omega,N,v,q3,by rw [<-q2];exact hdy,rfl⟩)
   ·have hge0: ¬(j:Int)<((mkS [ca,cb]).size:Int):=hge
    obtain ⟨x,y,hx1,hy1,hN⟩: ∃x y,digA ca=some x/\digA cb=some y/\N=x*16+y:=by
     rcases hj with ⟨h1,h2⟩ | ⟨h1,h2⟩ | ⟨h1,h⟩
     ·omega
     ·omega
     ·exact h
    have hN8:N<256:=by
     have h1:=z_k7 hx1
     have h2:=z_k7 hy1
     omega
    refine ⟨((u8n N).toNat:Int),z_gb _,?_⟩
    intro b3
    obtain ⟨l2,hl2⟩: ∃l2,l2=out++[u8n N]:=⟨_,rfl⟩
    have hl2l:out.length+1=l2.length:=by rw [hl2,List.length_append];rfl
    have hpl:pre.length<L.length:=by
     rcases Nat.lt_or_ge pre.length L.length with h | h
     ·exact h
     ·rw [List.getElem?_eq_none h] at hx;cases hx
    refine ⟨2,out.length,l2.length,_,[u8n N].map byte,l2.map byte,rfl,fun β w' hs=>z_an (hs.get 0 rfl),z_ap _,hl2l,by rw [hl2,List.map_append],by rw [maxLen_eq];omega,by show l2.length*1<=_;omega,?_⟩
    intro A2 c2 r1 r2 r3
    refine ⟨(l2,A2,c2),⟨?_,?_,?_⟩,Ent.mk' trivial rfl (fun β w' hs=>hs.perm [2])⟩
    ·show pre++[mkS [ca,cb]]=L.take (pre++[mkS [ca,cb]]).length
     rw [List.length_append,List.length_singleton,List.take_add_one,hx,<-hpre]
     rfl
    ·show unhexA ((pre++[mkS [ca,cb]]).map (·.data.toList)).flatten=some l2
     rw [List.map_append,List.map_singleton,hdm,List.flatten_append,z_lb _ _ (by rw [hpf,List.length_take];omega),hun0,hl2]
     simp [unhexA,hx1,hy1,hN]
    ·show l2.length<=(pre++[mkS [ca,cb]]).length
     rw [List.length_append,List.length_singleton]
     omega
  ·rintro xs ⟨out,A,c⟩ Fs ⟨hpre,hun,hlen⟩ ⟨rfl,rfl⟩
   have hfl:(xs.map (·.data.toList)).flatten=s0:=by
    rw [<-hLd,List.map_map,show ((fun b:ByteArray=>b.data.toList)∘mkS)=id from funext fun l=>by simp [mkS],List.map_id,z_jX 1 _ _ (Nat.le_refl _)]
   rw [hfl] at hun
   intro β w' hs
   have hcap:out.length<=c:=z_ir (show (browF z_ab A out c).p w' from hs.get 0 rfl)
   exact (hs.keepB (List.nil_sublist _)).fin [0] ⟨A,out,c,0,rfl,.inl ⟨rfl,hun⟩,hcap,rfl⟩
  ·rintro e pre ⟨⟩ Fs ⟨rfl,hno⟩ rfl
   intro β w' hs
   exact ((hs.keepB (List.nil_sublist _)).nilRow z_ab 1).fin [0] ⟨none,[],0,5,rfl,.inr ⟨by decide,hno⟩,Nat.le_refl _,rfl⟩
 ·have h00: ¬(((mkS s0).size%2:Nat):Int)=0:=h0
  intro β w' hs
  exact ((hs.keepB (List.nil_sublist _)).nilRow z_ab 1).fin [0] ⟨none,[],0,2,rfl,.inr ⟨by decide,z_lh s0 (by omega)⟩,Nat.le_refl _,rfl⟩
def digB:List UInt8:=[48,49,50,51,52,53,54,55,56,57,97,98,99,100,101,102]
theorem z_vF {n:Nat} {c x:UInt8} (h:digB[n]?=some x):x=c↔digA c=some n:=by
 have key: ∀n:_root_.Fin 16,∀m:_root_.Fin 256,(decide (digB[n.1]?=some (UInt8.ofNat m.1))=decide (digA (UInt8.ofNat m.1)=some n.1)):=by decide+kernel
 have hn:n<16:=(List.getElem?_eq_some_iff.1 h).1
 have h2:=key ⟨n,hn⟩ ⟨c.toNat,c.toNat_lt⟩
 simp only [UInt8.ofNat_toNat,decide_eq_decide] at h2
 rw [h] at h2
 exact ⟨fun q=>h2.1 (by rw [q]),fun q=>Option.some.inj (h2.2 q)⟩
def digTo (c:UInt8) (n:Nat):Int:=match digA c with
 | some d=>if d<n then (d:Int) else -1
 | none=> -1
theorem z_xN (c:UInt8):digTo c 0= -1:=by
 unfold digTo
 split
 ·rw [if_neg (Nat.not_lt_zero _)]
 ·rfl
theorem z_ti {c:UInt8} {n:Nat} (h:digA c=some n):digTo c (n+1)=(n:Int):=by
 unfold digTo
 rw [h]
 simp only
 rw [if_pos (Nat.lt_succ_self _)]
theorem z_vB {c:UInt8} {n:Nat} (h:digA c≠some n):digTo c (n+1)=digTo c n:=by
 unfold digTo
 cases hd:digA c with
 | none=>rfl
 | some d=>
  simp only
  have hne:d≠n:=fun q=>h (by rw [hd,q])
  by_cases q:d<n
  ·rw [if_pos (by omega),if_pos q]
  ·rw [if_neg (by omega),if_neg q]
theorem z_vV (c:UInt8):digTo c 16=digV c:=by
 unfold digTo digV
 cases hd:digA c with
 | none=>rfl
 | some d=>simp only;rw [if_pos (z_k7 hd)]
theorem z_rT {s:List UInt8} {i:Nat} {x:UInt8} (h2:s.length%2=0) (hx:s[i]?=some x) (hd:digA x=none):unhexA s=none:=by
 have hi:=(List.getElem?_eq_some_iff.1 hx).1
 by_cases he:i%2=0
 ·obtain ⟨y,hy, -⟩:=at_lt (show i+1<s.length by omega)
  have e:s=s.take i++x::y::s.drop (i+2):=by
   have h1:=List.drop_eq_getElem_cons hi
   have h3:=List.drop_eq_getElem_cons (show i+1<s.length by omega)
   rw [(List.getElem?_eq_some_iff.1 hx).2] at h1
   rw [(List.getElem?_eq_some_iff.1 hy).2] at h3
   rw [<-h3,<-h1,List.take_append_drop]
  rw [e]
  exact z_iq x y _ _ (by rw [List.length_take];omega) (.inl hd)
 ·obtain ⟨y,hy, -⟩:=at_lt (show i - 1<s.length by omega)
  have e:s=s.take (i - 1)++y::x::s.drop (i+1):=by
   have h1:=List.drop_eq_getElem_cons hi
   have h3:=List.drop_eq_getElem_cons (show i - 1<s.length by omega)
   rw [(List.getElem?_eq_some_iff.1 hx).2] at h1
   rw [(List.getElem?_eq_some_iff.1 hy).2,show i - 1+1=i by omega] at h3
   rw [<-h1,<-h3,List.take_append_drop]
  rw [e]
  exact z_iq y x _ _ (by rw [List.length_take];omega) (.inr hd)
theorem z_sw {s o:List UInt8} {i v w:Nat} {x y:UInt8} (h:unhexA (s.take i)=some o) (he:i%2=0) (hx:s[i]?=some x) (hy:s[i+1]?=some y) (hv:digA x=some v) (hw:digA y=some w):unhexA (s.take (i+2))=some (o++[u8n (v*16+w)]):=by
 have hi:=(List.getElem?_eq_some_iff.1 hx).1
 rw [List.take_add_one,List.take_add_one,hx,hy,List.append_assoc,z_lb _ _ (by rw [List.length_take];omega),h]
 show (match (some o),unhexA [x,y] with | some a,some b=>some (a++b) | _,_=>none)=_
 have e:unhexA [x,y]=some [u8n (v*16+w)]:=by simp [unhexA,hv,hw]
 rw [e]
theorem z_xz (a b:Nat):u8n a+u8n b=u8n (a+b):=by
 apply UInt8.toNat_inj.1
 unfold u8n
 rw [UInt8.toNat_add,UInt8.toNat_ofNat',UInt8.toNat_ofNat',UInt8.toNat_ofNat']
 omega
theorem z_rk (w:World) (s:List UInt8) (hL:s.length<=1000000):Con Tryz.prog z_dT #[.string (mkS s)] w [] (decOutP (unhexA s)):=by
 have g:=z_gq w (Un [])
 refine z_ac (cx:=z_di w (Un [])) g z_i4 rfl rfl (β:=Va.z) [.c (.v (.string (mkS s)))] 0 [] [] rfl rfl (Sat.start rfl) ?_
 have hml:=maxLen_eq
 have hsz:=z_je s
 refine ⟨by first | decide | omega,?_⟩
 refine ⟨(((mkS s).size%2:Nat):Int),Int.ofNat_tmod _ _,?_⟩
 refine BIf.not (BIf.dec (fun h2=>?_) (fun h2=>?_))
 ·have h20:(((mkS s).size%2:Nat):Int)=0:=h2
  refine z_ai (ι:=Nat×Option Addr×Nat×List UInt8) 0 (fun j=>[(0,.c (.v (.string (mkS s)))),(4,.c (.v (.slice j.2.1 j.2.2.2.length j.2.2.1))),(5,.c (.v (.int .i64 (j.1:Int))))]) (fun _=>[]) (fun j=>[browF z_ab j.2.1 j.2.2.2 j.2.2.1])
   (fun j=>j.1<=s.length/\(j.1%2=0->unhexA (s.take j.1)=some j.2.2.2)/\(j.1%2=1-> ∃o x v,s[j.1 - 1]?=some x/\digA x=some v/\unhexA (s.take (j.1 - 1))=some o/\j.2.2.2=o++[u8n (v*16)])/\j.2.2.2.length<=j.1) (fun j=>s.length - j.1) (0,none,0,[]) ⟨Nat.zero_le _,fun _=>rfl,(fun h=>by cases h),Nat.le_refl _⟩ (Ent.mk' ⟨rfl,rfl,rfl,trivial⟩ rfl (fun β w' hs=>hs.nilRow z_ab 1)) g ?_
  rintro ⟨i,A,c,out⟩ ⟨hi,he,ho,hol⟩
  simp only at hi he ho hol
  refine BIf.dec (fun hlt=>?_) (fun hge=>?_)
  ·have hlt0:(i:Int)<((mkS s).size:Int):=hlt
   obtain ⟨x,hx, -⟩:=at_lt (show i<s.length by omega)
   refine z_rN (p:=0<out.length-> ∃b,A=some ⟨b,0,none⟩) (fun β w' hs h=>?_) ?_
   ·have hp:w'.ownsRow 0 z_ab 1 (.slice A out.length c) out.length (out.map byte):=hs.get 0 rfl
    rcases hp.2 with ⟨_,q⟩ | ⟨b,cap,cur,hv,_⟩
    ·omega
    ·injection hv with q1 q2 q3
     exact ⟨b,q1⟩
   intro hAb
   refine z_ai (ι:=Nat) 0 (fun j=>[(0,.c (.v (.string (mkS s)))),(4,.c (.v (.slice A out.length c))),(5,.c (.v (.int .i64 (i:Int)))),(6,.c (.v (.int .i64 (digTo x j)))),(7,.c (.v (.int .i64 (j:Int))))]) (fun _=>[]) (fun j=>[browF z_ab A out c])
    (fun j=>j<=16) (fun j=>16 - j) (0:Nat) (Nat.zero_le _) (Ent.mk' ⟨rfl,rfl,rfl,by rw [z_xN];rfl,rfl,trivial⟩ rfl (fun β w' hs=>hs)) g ?_
   intro n hn
   refine BIf.dec (fun hlt2=>?_) (fun hge2=>?_)
   ·have hlt20:(n:Int)<16:=hlt2
    obtain ⟨d,hd, -⟩:=at_lt (show n<digB.length by show n<16;omega)
    have hdi:=z_vF (c:=x) hd
    refine z_aj g z_gN (by kernel_rfl) [] [] (Sub.of (List.Sublist.refl _) (List.nil_sublist _)) ?_
    refine ⟨n,d,rfl,hd,?_⟩
    refine ⟨i,x,rfl,hx,?_⟩
    refine BIf.dec (fun heq=>?_) (fun hne=>?_)
    ·have heq0:d=x:=UInt8.toNat_inj.1 (Int.ofNat_inj.1 heq)
     refine ⟨((n+1:Nat):Int),by rw [wrap_i64 (by omega) (by omega)];rfl,?_⟩
     refine ⟨n+1,by omega,by omega,Ent.mk' ⟨rfl,rfl,rfl,by rw [z_ti (hdi.1 heq0)];rfl,rfl,trivial⟩ rfl (fun β w' hs=>hs)⟩
    ·have hne0:d≠x:=fun q=>hne (by rw [q])
     refine ⟨((n+1:Nat):Int),by rw [wrap_i64 (by omega) (by omega)];rfl,?_⟩
     refine ⟨n+1,by omega,by omega,Ent.mk' ⟨rfl,rfl,rfl,by rw [z_vB (fun q=>hne0 (hdi.2 q))];rfl,rfl,trivial⟩ rfl (fun β w' hs=>hs)⟩
   ·have hge20: ¬(n:Int)<16:=hge2
    obtain rfl:n=16:=by omega
    rw [z_vV]
    cases hdx:digA x with
    | none=>
     have hv:digV x= -1:=by unfold digV;rw [hdx]
     rw [hv]
     intro β w' hs
     exact (hs.nilRow z_ab 1).fin [0] ⟨none,[],0,5,rfl,.inr ⟨by decide,z_rT (by omega) hx hdx⟩,Nat.le_refl _,rfl⟩
    | some v=>
     have hv:digV x=(v:Int):=by unfold digV;rw [hdx]
     have hv16:=z_k7 hdx
     rw [hv]
     refine ⟨by first | decide | omega,?_⟩
     refine ⟨((i%2:Nat):Int),Int.ofNat_tmod _ _,?_⟩
     refine BIf.dec (fun hev=>?_) (fun hod=>?_)
     ·have hev0:((i%2:Nat):Int)=0:=hev
      refine ⟨(((16*v):Nat):Int),by rw [wrap_i64 (by omega) (by omega)];rfl,?_⟩
      refine ⟨((u8n (v*16)).toNat:Int),by rw [show 16*v=v*16 by omega];exact z_gb _,?_⟩
      intro b1
      obtain ⟨out2,hout2⟩: ∃out2,out2=out++[u8n (v*16)]:=⟨_,rfl⟩
      have hl2:out.length+1=out2.length:=by rw [hout2,List.length_append];rfl
      refine ⟨1,out.length,out2.length,out.map byte,[u8n (v*16)].map byte,out2.map byte,rfl,fun β w' hs=>z_an (hs.get 0 rfl),z_ap _,hl2,by rw [hout2,List.map_append],by rw [hml];omega,by show out2.length*1<=_;omega,?_⟩
      intro A2 c2 r1 r2 r3
      refine ⟨((i+1:Nat):Int),by rw [wrap_i64 (by omega) (by omega)];rfl,?_⟩
      exact ⟨(i+1,A2,c2,out2),⟨by show i+1<=_;omega,fun h=>absurd (show (i+1)%2=0 from h) (by omega),fun _=>⟨out,x,v,hx,hdx,he (by omega),hout2⟩,by show out2.length<=i+1;omega⟩,by show s.length - (i+1)<s.length - i;omega,Ent.mk' ⟨rfl,rfl,rfl,trivial⟩ rfl (fun β w' hs=>hs.perm [1])⟩
     ·have hod0: ¬((i%2:Nat):Int)=0:=hod
      obtain ⟨o,x0,v0,hx0,hdx0,hun,hoe⟩:=ho (by omega)
      have hole:out.length=o.length+1:=by rw [hoe,List.length_append];rfl
      obtain ⟨bA,hbA⟩:=hAb (by omega)
      subst hbA
      refine ⟨_,wrap_i64 (by omega) (by omega),?_⟩
      refine ⟨_,o.length,rfl,by omega,by omega,?_⟩
      refine ⟨byte (u8n (v0*16)),fun β w' hs=>Rd.cell1 (z_an (show (browF z_ab (some ⟨bA,0,none⟩) out c).p w' from hs.get 0 rfl)) (by rw [hoe,List.map_append,List.getElem?_append_right (by simp)];simp),?_⟩
      refine ⟨((v:Nat):Int),by rw [IntKind.wrap_u8];omega,?_⟩
      refine ⟨((u8n (v0*16+v)).toNat:Int),by
       have h1:=UInt8.toNat_add (u8n (v0*16)) (u8n v)
       rw [z_xz] at h1
       have h2:(u8n v).toNat=v:=by unfold u8n;rw [UInt8.toNat_ofNat'];omega
       rw [IntKind.wrap_u8,h1,h2]
       omega,?_⟩
      refine ⟨_,o.length,rfl,by omega,by omega,?_⟩
      refine ⟨_,fun β w' hs=>Sat.rowSet hs (j:=0) (us:=[byte (u8n (v0*16+v))]) rfl (by show o.length*1+1<=out.length*1;omega) (fun u hu=>by obtain rfl:=List.mem_singleton.1 hu;rfl),?_⟩
      refine ⟨((i+1:Nat):Int),by rw [wrap_i64 (by omega) (by omega)];rfl,?_⟩
      obtain ⟨out2,hout2⟩: ∃out2,out2=o++[u8n (v0*16+v)]:=⟨_,rfl⟩
      have hl2:out2.length=out.length:=by rw [hout2,List.length_append,hole];rfl
      have hput:putAll (out.map byte) (o.length*1) [byte (u8n (v0*16+v))]=out2.map byte:=by
       show putAt (out.map byte) (o.length*1) _=_
       rw [z_aF,Nat.mul_one,hoe,hout2,List.map_append,List.map_append,List.set_append_right _ _ (by simp)]
       simp
      have hi1:i - 1+2=i+1:=by omega
      refine ⟨(i+1,some ⟨bA,0,none⟩,c,out2),⟨by show i+1<=_;omega,fun _=>?_,fun h=>absurd (show (i+1)%2=1 from h) (by omega),by show out2.length<=i+1;omega⟩,by show s.length - (i+1)<s.length - i;omega,?_⟩
      ·show unhexA (s.take (i+1))=some out2
       rw [hout2,<-hi1]
       exact z_sw hun (by omega) hx0 (by rw [show i - 1+1=i by omega];exact hx) hdx0 hdx
      ·simp only [hl2]
       refine Ent.mk' ⟨rfl,rfl,rfl,trivial⟩ rfl (fun β w' hs=>?_)
       show Sat _ _ _ _ [rowF z_ab 1 (.slice (some ⟨bA,0,none⟩) out2.length c) out2.length (out2.map byte)] _
       rw [<-hput,hl2]
       exact hs
  ·have hge0: ¬(i:Int)<((mkS s).size:Int):=hge
   obtain rfl:i=s.length:=by omega
   intro β w' hs
   refine hs.fin [0] ⟨A,out,c,0,rfl,.inl ⟨rfl,?_⟩,z_ir (hs.get 0 rfl),rfl⟩
   have h:=he (by omega)
   rwa [List.take_length] at h
 ·have h20: ¬(((mkS s).size%2:Nat):Int)=0:=h2
  intro β w' hs
  exact (hs.nilRow z_ab 1).fin [0] ⟨none,[],0,2,rfl,.inr ⟨by decide,z_lh s (by omega)⟩,Nat.le_refl _,rfl⟩
theorem z_wN (w:World) (n:Nat) (hn:n<=3):Pu Tryz.prog z_nr #[.int .u64 1,.int .u64 n] w (.tuple #[.int .u64 0,.int .u64 n]):=by
 refine pu_of (Calls.mono (Tryz.bits_Mul 1 n (by decide) (by omega) w) ?_)
 rintro e w' ⟨rfl,rfl⟩
 refine ⟨_,rfl,?_,Chg.refl _ _⟩
 have:n=0\/n=1\/n=2\/n=3:=by omega
 rcases this with rfl | rfl | rfl | rfl<;>rfl
theorem hpE_c (w:World) (s:ByteArray) (b:Bool) (h:_root_.Go.Lib.hasPrefix s.data.toList [61]=b):Pu Tryz.prog z_jD #[.string s,.string ⟨#[61]⟩] w (.bool b):=by
 refine pu_of (Calls.mono (Tryz.strings_HasPrefix s ⟨#[61]⟩ w) ?_)
 rintro e w' ⟨rfl,rfl⟩
 exact ⟨_,rfl,congrArg Value.bool h,Chg.refl _ _⟩
def eqs (n:Nat):List UInt8:=List.replicate n 61
theorem z_u4 (w:World) (n:Nat) (hn:n<=3):Pu Tryz.prog z_gV #[.string ⟨#[61]⟩,.int .i64 n] w (.string (mkS (eqs n))):=by
 have g:=z_jx w (Un [])
 have hml:=maxLen_eq
 refine z_ac (cx:=z_fN w (Un [])) g z_ma rfl rfl (β:=Va.z) [.c (.v (.string ⟨#[61]⟩)),.c (.v (.int .i64 n))] 0 [] [] rfl rfl (Sat.start rfl) ?_
 have:n=0\/n=1\/n=2\/n=3:=by omega
 rcases this with rfl | rfl | rfl | rfl
 ·intro β w' hs
  exact hs.fin [] ⟨rfl,rfl⟩
 ·intro β w' hs
  exact hs.fin [] ⟨rfl,rfl⟩
 ·refine ⟨1,rfl,2,rfl,?_⟩
  refine z_ae (fun β w' hs=>z_wN w' 2 (by omega)) ?_
  refine ⟨_,wrap_i64 (by omega) (by omega),?_⟩
  refine ⟨0,61,rfl,rfl,?_⟩
  refine z_ae (v:= .bool false) (fun β w' hs=>hpE_c w' _ false (by decide+kernel)) ?_
  refine z_ae (v:= .bool false) (fun β w' hs=>hpE_c w' _ false (by decide+kernel)) ?_
  refine z_ae (v:= .bool false) (fun β w' hs=>hpE_c w' _ false (by decide+kernel)) ?_
  refine z_ae (v:= .bool true) (fun β w' hs=>hpE_c w' _ true (by decide+kernel)) ?_
  refine ⟨2,0,rfl,rfl,by decide+kernel,Nat.zero_le _,?_⟩
  intro β w' hs
  exact hs.fin [] ⟨congrArg Value.string (by decide+kernel),rfl⟩
 ·refine ⟨1,rfl,3,rfl,?_⟩
  refine z_ae (fun β w' hs=>z_wN w' 3 (by omega)) ?_
  refine ⟨_,wrap_i64 (by omega) (by omega),?_⟩
  refine ⟨0,61,rfl,rfl,?_⟩
  refine z_ae (v:= .bool false) (fun β w' hs=>hpE_c w' _ false (by decide+kernel)) ?_
  refine z_ae (v:= .bool false) (fun β w' hs=>hpE_c w' _ false (by decide+kernel)) ?_
  refine z_ae (v:= .bool false) (fun β w' hs=>hpE_c w' _ false (by decide+kernel)) ?_
  refine z_ae (v:= .bool true) (fun β w' hs=>hpE_c w' _ true (by decide+kernel)) ?_
  refine ⟨3,0,rfl,rfl,by decide+kernel,Nat.zero_le _,?_⟩
  intro β w' hs
  exact hs.fin [] ⟨congrArg Value.string (by decide+kernel),rfl⟩
end Go.Proofs.YtloeaiafphkjnaaGreatDoor.Sx
namespace Go.Proofs.YtloeaiafphkjnaaGreatDoor.Sx
open Go
open Go.ChangeMaps (setBlock)
variable {kk:IntKind}
section
variable {cx:Cx} {β:Va} {n:Nat} {H:List Bk} {F:List Fact} {w:World}
end
end Go.Proofs.YtloeaiafphkjnaaGreatDoor.Sx
namespace Go.Proofs.YtloeaiafphkjnaaGreatDoor.Sx
open Go
attribute [local irreducible] Calls
theorem z_uL (m:Nat):eqs m++[61]=eqs (m+1):=by
 unfold eqs
 rw [List.replicate_succ']
theorem z_wY (m:Nat):(eqs m).length=m:=by simp [eqs]
def bitA (p:List UInt8) (i:Nat):Nat:=(p.getD (i/8) 0).toNat/2^(7 - i%8)%2
def sixM (p:List UInt8) (a m:Nat):Nat:=(List.range m).foldl (fun n j=>n*2+bitA p (a+j)) 0
theorem z_ho (p:List UInt8) (a m:Nat):sixM p a (m+1)=sixM p a m*2+bitA p (a+m):=by
 unfold sixM
 rw [List.range_succ,List.foldl_append]
 rfl
def encG:List UInt8->List Nat
 | x::y::z::r=>x.toNat/4::(x.toNat%4*16+y.toNat/16)::(y.toNat%16*4+z.toNat/64)::(z.toNat%64)::encG r
 | [x,y]=>[x.toNat/4,x.toNat%4*16+y.toNat/16,y.toNat%16*4]
 | [x]=>[x.toNat/4,x.toNat%4*16]
 | []=>[]
theorem z_sX: ∀(p:List UInt8),∀v∈encG p,v<64
 | x::y::z::r,v,h=>by
  have hx:=x.toNat_lt
  have hy:=y.toNat_lt
  have hz:=z.toNat_lt
  simp only [encG,List.mem_cons] at h
  rcases h with rfl | rfl | rfl | rfl | h
  ·omega
  ·omega
  ·omega
  ·omega
  ·exact z_sX r v h
 | [x,y],v,h=>by
  have hx:=x.toNat_lt
  have hy:=y.toNat_lt
  simp only [encG,List.mem_cons,List.not_mem_nil,or_false] at h
  rcases h with rfl | rfl | rfl<;>omega
 | [x],v,h=>by
  have hx:=x.toNat_lt
  simp only [encG,List.mem_cons,List.not_mem_nil,or_false] at h
  rcases h with rfl | rfl<;>omega
 | [],v,h=>by cases h
theorem z_kM: ∀(p:List UInt8),(encG p).length=(8*p.length+5)/6
 | x::y::z::r=>by
  have:=z_kM r
  simp only [encG,List.length_cons]
  omega
 | [x,y]=>by simp [encG]
 | [x]=>by simp [encG]
 | []=>by simp [encG]
theorem z_ic (p:List UInt8) (a:Nat):sixM p a 6=((((bitA p a*2+bitA p (a+1))*2+bitA p (a+2))*2+bitA p (a+3))*2+bitA p (a+4))*2+bitA p (a+5):=by
 simp only [z_ho]
 simp [sixM]
theorem z_um (x y z:UInt8) (r:List UInt8) (i:Nat):bitA (x::y::z::r) (24+i)=bitA r i:=by
 unfold bitA
 rw [show (24+i)/8=i/8+1+1+1 by omega,show (24+i)%8=i%8 by omega]
 simp only [List.getD_cons_succ]
theorem z_wJ: ∀(p:List UInt8) (k:Nat),k<(encG p).length->(encG p)[k]?=some (sixM p (6*k) 6)
 | x::y::z::r,k,h=>by
  have hx:=x.toNat_lt
  have hy:=y.toNat_lt
  have hz:=z.toNat_lt
  match k,h with
  | 0,_=>
   rw [z_ic]
   simp only [encG,bitA,List.getElem?_cons_zero]
   simp
   omega
  | 1,_=>
   rw [z_ic]
   simp only [encG,bitA,List.getElem?_cons_succ,List.getElem?_cons_zero]
   simp
   omega
  | 2,_=>
   rw [z_ic]
   simp only [encG,bitA,List.getElem?_cons_succ,List.getElem?_cons_zero]
   simp
   omega
  | 3,_=>
   rw [z_ic]
   simp only [encG,bitA,List.getElem?_cons_succ,List.getElem?_cons_zero]
   simp
   omega
  | k+4,h=>
   have ih:=z_wJ r k (by simp only [encG,List.length_cons] at h;omega)
   simp only [encG,List.getElem?_cons_succ]
   rw [ih,z_ic,z_ic,show 6*(k+4)=24+6*k by omega]
   simp only [Nat.add_assoc,z_um]
 | [x,y],k,h=>by
  have hx:=x.toNat_lt
  have hy:=y.toNat_lt
  match k,h with
  | 0,_=>rw [z_ic];simp only [encG,bitA,List.getElem?_cons_zero];simp;omega
  | 1,_=>rw [z_ic];simp only [encG,bitA,List.getElem?_cons_succ,List.getElem?_cons_zero];simp;omega
  | 2,_=>rw [z_ic];simp only [encG,bitA,List.getElem?_cons_succ,List.getElem?_cons_zero];simp;omega
  | k+3,h=>simp only [encG,List.length_cons,List.length_nil] at h;omega
 | [x],k,h=>by
  have hx:=x.toNat_lt
  match k,h with
  | 0,_=>rw [z_ic];simp only [encG,bitA,List.getElem?_cons_zero];simp;omega
  | 1,_=>rw [z_ic];simp only [encG,bitA,List.getElem?_cons_succ,List.getElem?_cons_zero];simp;omega
  | k+2,h=>simp only [encG,List.length_cons,List.length_nil] at h;omega
 | [],k,h=>by cases h
def b64L (url:Bool) (p:List UInt8):List UInt8:=(encG p).map (letA url)
def encS (url:Bool) (p:List UInt8):List UInt8:=match url with
 | true=>b64L true p
 | false=>b64L false p++eqs ((4 - (b64L false p).length%4)%4)
theorem z_tg (p:List UInt8) (i:Nat):bitA p i<2:=Nat.mod_lt _ (by decide)
theorem z_uW {p:List UInt8} {i:Nat} (h: ¬i<8*p.length):bitA p i=0:=by
 unfold bitA
 rw [List.getD_eq_getElem?_getD,List.getElem?_eq_none (by omega)]
 simp
theorem z_up (p:List UInt8) (a:Nat): ∀m,m<=6->sixM p a m<2^m
 | 0,_=>Nat.one_pos
 | m+1,h=>by
  have:=z_up p a m (by omega)
  have:=z_tg p (a+m)
  rw [z_ho,Nat.pow_succ]
  omega
theorem z_xX {x:Nat} (hx:x<256):bits .and .u8 (x:Int) 1=((x%2:Nat):Int):=by
 show IntKind.u8.wrap (((BitVec.ofInt 8 (x:Int))&&&(BitVec.ofInt 8 1)).toNat:Int)=_
 have h1:(BitVec.ofInt 8 (x:Int)).toNat=x:=by
  rw [BitVec.toNat_ofInt]
  omega
 have h2:(BitVec.ofInt 8 1).toNat=2^1 - 1:=by decide
 rw [BitVec.toNat_and,h1,h2,Nat.and_two_pow_sub_one_eq_mod,IntKind.wrap_u8]
 omega
theorem z_kj (w:World) (A:Option Addr) (p:List UInt8) (c:Nat) (url:Bool) (hl:p.length<=1000000) (hm:Mem w [bsF A p]):Con Tryz.prog z_dg #[.slice A p.length c,.bool url] w [] fun v Fs=>v= .string (mkS (encS url p))/\Fs=[]:=by
 have g:=z_fU w (Un [])
 have hml:=maxLen_eq
 have hs0:Sat (z_bg w (Un [])) Va.z 0 [] [bsF A p] w:=hm.sat0 rfl (fun f hf ho k hk=>by obtain rfl:=List.mem_singleton.1 hf;cases ho)
 have hp:Bs w A p:=hm.fact (bsF A p) (by simp)
 refine z_ac (cx:=z_bg w (Un [])) g z_h3 rfl rfl (β:=Va.z) [.c (.v (.slice A p.length c)),.c (.v (.bool url))] 0 [] _ rfl rfl hs0 ?_
 refine ⟨(((8*p.length):Nat):Int),by rw [wrap_i64 (by omega) (by omega)];rfl,?_⟩
 have hEl:(b64L url p).length=(8*p.length+5)/6:=by unfold b64L;rw [List.length_map,z_kM]
 obtain ⟨E,hE⟩: ∃E,b64L url p=E:=⟨_,rfl⟩
 rw [hE] at hEl
 refine z_ai (ι:=Nat×Option Addr×Nat) 0 (fun j=>[(0,.c (.v (.slice A p.length c))),(1,.c (.v (.bool url))),(5,.c (.v (.slice j.2.1 (E.take j.1).length j.2.2))),(6,.c (.v (.int .i64 ((8*p.length:Nat):Int)))),(7,.c (.v (.int .i64 ((6*j.1:Nat):Int))))]) (fun _=>[]) (fun j=>[browF z_ab j.2.1 (E.take j.1) j.2.2,bsF A p])
  (fun j=>j.1<=E.length) (fun j=>E.length - j.1) (0,none,0) (Nat.zero_le _) (Ent.mk' ⟨rfl,rfl,rfl,rfl,rfl,trivial⟩ rfl (fun β w' hs=>hs.nilRow z_ab 1)) g ?_
 rintro ⟨k,B,d⟩ hk
 simp only at hk
 have hkl:(E.take k).length=k:=by rw [List.length_take];omega
 refine BIf.dec (fun hlt=>?_) (fun hge=>?_)
 ·have hlt0:((6*k:Nat):Int)<((8*p.length:Nat):Int):=hlt
  have hkE:k<E.length:=by omega
  have hEk:E[k]?=some (letA url (sixM p (6*k) 6)):=by
   rw [<-hE]
   unfold b64L
   rw [List.getElem?_map,z_wJ p k (by rw [z_kM];omega)]
   rfl
  refine z_ai (ι:=Nat) 0 (fun j=>[(0,.c (.v (.slice A p.length c))),(1,.c (.v (.bool url))),(5,.c (.v (.slice B (E.take k).length d))),(6,.c (.v (.int .i64 ((8*p.length:Nat):Int)))),(7,.c (.v (.int .i64 ((6*k:Nat):Int)))),(8,.c (.v (.int .i64 (sixM p (6*k) j:Int)))),(9,.c (.v (.int .i64 ((6*k+j:Nat):Int))))]) (fun _=>[]) (fun j=>[browF z_ab B (E.take k) d,bsF A p])
   (fun j=>j<=6) (fun j=>6 - j) (0:Nat) (Nat.zero_le _) (Ent.mk' ⟨rfl,rfl,rfl,rfl,rfl,rfl,rfl,trivial⟩ rfl (fun β w' hs=>hs)) g ?_
  intro m hm6
  have h6:=z_up p (6*k) m hm6
  have h64:2^m<=64:=Nat.pow_le_pow_right (by decide) hm6
  refine ⟨((6*k+6:Nat):Int),by rw [wrap_i64 (by omega) (by omega)];rfl,?_⟩
  refine BIf.dec (fun hlt2=>?_) (fun hge2=>?_)
  ·have hlt20:((6*k+m:Nat):Int)<((6*k+6:Nat):Int):=hlt2
   refine ⟨((sixM p (6*k) m*2:Nat):Int),by rw [wrap_i64 (by omega) (by omega)];rfl,?_⟩
   refine BIf.dec (fun hin=>?_) (fun hout=>?_)
   ·have hin0:((6*k+m:Nat):Int)<((8*p.length:Nat):Int):=hin
    obtain ⟨y,hy, -⟩:=at_lt (show (6*k+m)/8<p.length by omega)
    obtain ⟨ad,hA⟩:=Bs.addr hp (by omega)
    have hbit:bitA p (6*k+m)=y.toNat/2^(7 - (6*k+m)%8)%2:=by
     unfold bitA
     rw [List.getD_eq_getElem?_getD,hy]
     rfl
    refine ⟨by first | decide | omega,?_⟩
    refine ⟨(((6*k+m)/8:Nat):Int),by rw [show (((6*k+m:Nat):Int)).tdiv 8=(((6*k+m)/8:Nat):Int) from (Int.ofNat_tdiv _ _).symm,wrap_i64 (by omega) (by omega)],?_⟩
    refine ⟨ad,(6*k+m)/8,hA,rfl,by omega,?_⟩
    refine ⟨byte y,fun β w' hs=>Rd.cell1 (show Rd 1 (some ad) p.length (p.map byte) w' from hA▸hs.get 1 rfl) (by rw [List.getElem?_map,hy];rfl),?_⟩
    refine ⟨by first | decide | omega,?_⟩
    refine ⟨(((6*k+m)%8:Nat):Int),Int.ofNat_tmod _ _,?_⟩
    refine ⟨((7 - (6*k+m)%8:Nat):Int),by rw [wrap_i64 (by omega) (by omega)];omega,?_⟩
    refine ⟨by first | decide | omega,?_⟩
    obtain ⟨sh,hsh⟩: ∃sh,7 - (6*k+m)%8=sh:=⟨_,rfl⟩
    rw [hsh] at hbit ⊢
    refine ⟨((y.toNat/2^sh:Nat):Int),by
     rw [Int.toNat_natCast,show min sh IntKind.u8.bits=sh from Nat.min_eq_left (by show sh<=8;omega),show ((2:Int)^sh)=((2^sh:Nat):Int) by simp,Int.fdiv_eq_ediv_of_nonneg _ (Int.natCast_nonneg _)]
     rfl,?_⟩
    have hyl:=y.toNat_lt
    have hdv:y.toNat/2^sh<256:=Nat.lt_of_le_of_lt (Nat.div_le_self _ _) hyl
    refine ⟨((y.toNat/2^sh%2:Nat):Int),z_xX hdv,?_⟩
    rw [<-hbit]
    have hb2:=z_tg p (6*k+m)
    refine BIf.dec (fun h1=>?_) (fun h1=>?_)
    ·have h10:((bitA p (6*k+m):Nat):Int)=1:=h1
     have hb1:bitA p (6*k+m)=1:=by omega
     refine ⟨((sixM p (6*k) m*2+1:Nat):Int),by rw [wrap_i64 (by omega) (by omega)];rfl,?_⟩
     refine ⟨((6*k+(m+1):Nat):Int),by rw [wrap_i64 (by omega) (by omega)];rfl,?_⟩
     exact ⟨m+1,by omega,by omega,Ent.mk' ⟨rfl,rfl,rfl,rfl,rfl,by rw [z_ho,hb1];rfl,rfl,trivial⟩ rfl (fun β w' hs=>hs)⟩
    ·have h10: ¬((bitA p (6*k+m):Nat):Int)=1:=h1
     have hb0:bitA p (6*k+m)=0:=by omega
     refine ⟨((6*k+(m+1):Nat):Int),by rw [wrap_i64 (by omega) (by omega)];rfl,?_⟩
     exact ⟨m+1,by omega,by omega,Ent.mk' ⟨rfl,rfl,rfl,rfl,rfl,by rw [z_ho,hb0];rfl,rfl,trivial⟩ rfl (fun β w' hs=>hs)⟩
   ·have hout0: ¬((6*k+m:Nat):Int)<((8*p.length:Nat):Int):=hout
    have hb0:=z_uW (p:=p) (i:=6*k+m) (by omega)
    refine ⟨((6*k+(m+1):Nat):Int),by rw [wrap_i64 (by omega) (by omega)];rfl,?_⟩
    exact ⟨m+1,by omega,by omega,Ent.mk' ⟨rfl,rfl,rfl,rfl,rfl,by rw [z_ho,hb0];rfl,rfl,trivial⟩ rfl (fun β w' hs=>hs)⟩
  ·have hge20: ¬((6*k+m:Nat):Int)<((6*k+6:Nat):Int):=hge2
   obtain rfl:m=6:=by omega
   refine z_ae (fun β w' hs=>z_rP w' (sixM p (6*k) 6) url (by omega)) ?_
   intro b1
   have hE1:E.take (k+1)=E.take k++[letA url (sixM p (6*k) 6)]:=by rw [List.take_add_one,hEk];rfl
   have hE1l:(E.take k).length+1=(E.take (k+1)).length:=by rw [hE1,List.length_append];rfl
   refine ⟨1,(E.take k).length,(E.take (k+1)).length,(E.take k).map byte,[letA url (sixM p (6*k) 6)].map byte,(E.take (k+1)).map byte,rfl,fun β w' hs=>z_an (hs.get 0 rfl),z_ap _,hE1l,by rw [hE1,List.map_append],by rw [hml];omega,by show (E.take (k+1)).length*1<=_;omega,?_⟩
   intro B2 d2 r1 r2 r3
   refine ⟨((6*(k+1):Nat):Int),by rw [wrap_i64 (by omega) (by omega)];omega,?_⟩
   exact ⟨(k+1,B2,d2),by show k+1<=_;omega,by show E.length - (k+1)<E.length - k;omega,Ent.mk' ⟨rfl,rfl,rfl,rfl,rfl,trivial⟩ rfl (fun β w' hs=>hs.perm [1,2])⟩
 ·have hge0: ¬((6*k:Nat):Int)<((8*p.length:Nat):Int):=hge
  obtain rfl:k=E.length:=by omega
  rw [List.take_length]
  have hxs: ∃q,q=(if url=true then 0 else (4 - E.length%4)%4):=⟨_,rfl⟩
  obtain ⟨q,hq⟩:=hxs
  have hS:encS url p=E++eqs q:=by
   rw [hq,<-hE]
   cases url with
   | true=>show b64L true p=_;simp [eqs]
   | false=>rfl
  rw [hS]
  refine z_ai (ι:=Nat×Option Addr×Nat) 0 (fun j=>[(1,.c (.v (.bool url))),(5,.c (.v (.slice j.2.1 (E++eqs j.1).length j.2.2)))]) (fun _=>[]) (fun j=>[browF z_ab j.2.1 (E++eqs j.1) j.2.2])
   (fun j=>j.1<=q) (fun j=>4 - j.1) (0,B,d) (Nat.zero_le _) (Ent.mk' ⟨rfl,by simp only [eqs,List.replicate_zero,List.append_nil];rfl,trivial⟩ rfl (fun β w' hs=>by simp only [eqs,List.replicate_zero,List.append_nil];exact hs.perm [0])) g ?_
  rintro ⟨m,B,d⟩ hmq
  simp only at hmq
  have hEm:(E++eqs m).length=E.length+m:=by rw [List.length_append,z_wY]
  refine BIf.mk (fun hu=>?_) (fun hu=>?_)
  ·have hu0:url=false:=by simpa using hu
   rw [hu0,if_neg (by decide)] at hq
   refine ⟨by first | decide | omega,?_⟩
   refine ⟨(((E++eqs m).length%4:Nat):Int),Int.ofNat_tmod _ _,?_⟩
   refine BIf.not (BIf.dec (fun h4=>?_) (fun h4=>?_))
   ·have h40:(((E++eqs m).length%4:Nat):Int)=0:=h4
    obtain rfl:m=q:=by omega
    refine ⟨_,fun β w' hs=>z_an (hs.get 0 rfl),?_⟩
    intro β w' hs
    exact hs.fin [] ⟨rfl,rfl⟩
   ·have h40: ¬(((E++eqs m).length%4:Nat):Int)=0:=h4
    intro b1
    have hE2:E++eqs (m+1)=(E++eqs m)++[61]:=by rw [<-z_uL,List.append_assoc]
    obtain ⟨E2,hE2d⟩: ∃E2,E++eqs (m+1)=E2:=⟨_,rfl⟩
    have hE2l:(E++eqs m).length+1=E2.length:=by rw [<-hE2d,hE2];simp;omega
    refine ⟨1,(E++eqs m).length,E2.length,(E++eqs m).map byte,[(61:UInt8)].map byte,E2.map byte,rfl,fun β w' hs=>z_an (hs.get 0 rfl),z_ap _,hE2l,by rw [<-hE2d,hE2];simp,by rw [hml];omega,by show E2.length*1<=_;omega,?_⟩
    intro B2 d2 r1 r2 r3
    refine ⟨(m+1,B2,d2),by show m+1<=q;omega,by show 4 - (m+1)<4 - m;omega,?_⟩
    simp only [hE2d]
    exact Ent.mk' ⟨rfl,rfl,trivial⟩ rfl (fun β w' hs=>hs.perm [1])
  ·have hu0:url=true:=by simpa using hu
   rw [hu0,if_pos rfl] at hq
   obtain rfl:m=q:=by omega
   refine ⟨_,fun β w' hs=>z_an (hs.get 0 rfl),?_⟩
   intro β w' hs
   exact hs.fin [] ⟨rfl,rfl⟩
def mlF:Fact where
 own:=false
 D:=fun k=>k=3
 p:=fun w=> ∃m:Int,w.cell? ⟨3,0,none⟩=some (.int .i64 m)
 st:=fun w w' hs ⟨m,h⟩=>⟨m,by rw [<-h];exact World.cell?_of_block (hs _ rfl)⟩
end Go.Proofs.YtloeaiafphkjnaaGreatDoor.Sx
namespace Go.Proofs.YtloeaiafphkjnaaGreatDoor.Sx
open Go
section
variable {cx:Cx} {β:Va} {n:Nat} {env:Env} {H:List Bk} {F:List Fact} {w:World}
end
end Go.Proofs.YtloeaiafphkjnaaGreatDoor.Sx
namespace Go.Proofs.YtloeaiafphkjnaaGreatDoor.Sx
open Go
attribute [local irreducible] Calls
def digS:ByteArray:=⟨#[48,49,50,51,52,53,54,55,56,57,97,98,99,100,101,102]⟩
theorem z_wm {k:Nat} (h:k<16):digS.extract k (k+1)=mkS [dgs.getD k 0]:=by
 have key: ∀k:_root_.Fin 16,(digS.extract k.1 (k.1+1)).data.toList=[dgs.getD k.1 0]:=by decide+kernel
 have:=key ⟨k,h⟩
 simp only at this
 have e:digS.extract k (k+1)=⟨(digS.extract k (k+1)).data.toList.toArray⟩:=by cases digS.extract k (k+1);simp
 rw [e,this]
 rfl
theorem z_aq (a b:List UInt8):mkS a++mkS b=mkS (a++b):=by
 have h:(mkS a++mkS b).data.toList=(mkS (a++b)).data.toList:=by simp [mkS]
 have e: ∀s:ByteArray,s=⟨s.data.toList.toArray⟩:=fun s=>by cases s;simp
 rw [e (mkS a++mkS b),h,<-e]
theorem z_ko (s:ByteArray):mkS s.data.toList=s:=by cases s;simp [mkS]
theorem z_r0 (l:List UInt8) (x:UInt8):hexB (l++[x])=hexB l++([dgs.getD (x.toNat/16) 0]++[dgs.getD (x.toNat%16) 0]):=by rw [z_qe];simp
theorem z_wt (w:World) (A:Option Addr) (l:List UInt8) (c:Nat) (hr:Bs w A l) (hn:l.length<=1000000):Pu Tryz.prog z_eZ #[.slice A l.length c] w (.string (mkS (hexB l))):=by
 have g:=z_id w (Un [])
 have hml:=maxLen_eq
 refine z_ac (cx:=z_ev w (Un [])) g z_j4 rfl rfl (β:=Va.z) [.c (.v (.slice A l.length c))] 0 [] [oldF w] rfl rfl (z_ay rfl) ?_
 refine z_ai 0 (fun k:Nat=>[(3,.c (.v (.string (mkS (hexB (l.take k)))))),(6,.c (.v (.slice A l.length c))),(7,.c (.v (.int .i64 l.length))),(8,.c (.v (.int .i64 (k:Int))))]) (fun _=>[]) (fun _=>[oldF w])
  (fun k=>k<=l.length) (fun k=>l.length - k) 0 (Nat.zero_le _) (Ent.same ⟨rfl,rfl,rfl,rfl,trivial⟩ rfl) g ?_
 intro k hk
 refine BIf.dec (fun hlt=>?_) (fun hge=>?_)
 ·have hlt0:(k:Int)<l.length:=hlt
  have hkl:k<l.length:=by omega
  obtain ⟨x,hx,hxm⟩:=at_lt hkl
  obtain ⟨ad,hA,_⟩:=hr.2 (by omega)
  have hsn:l.take (k+1)=l.take k++[x]:=by rw [List.take_add_one,hx];rfl
  obtain ⟨m,hm⟩: ∃m,x.toNat=m:=⟨_,rfl⟩
  have hm256:m<256:=by rw [<-hm];exact x.toNat_lt
  have hhl:(hexB (l.take k)).length=2*k:=by rw [z_fg,List.length_take];omega
  refine ⟨ad,k,hA,rfl,hkl,.int .u8 (m:Int),fun β w' hs=>?_,?_⟩
  ·have h:=Rd.old hr (hs.get 0 rfl)
   rw [hA] at h
   rw [<-hm]
   exact Rd.cell1 (u:=byte x) h (by rw [List.getElem?_map,hx];rfl)
  refine z_aj g z_iB (by kernel_rfl) [] [oldF w] Sub.refl ?_
  have e1:IntKind.u8.wrap ((m:Int).tdiv 16)=((m/16:Nat):Int):=by
   show IntKind.u8.wrap ((m:Int).tdiv ((16:Nat):Int))=_
   rw [<-Int.ofNat_tdiv,wrap_u8]
   omega
  have e2:(m:Int).tmod 16=((m%16:Nat):Int):=(Int.ofNat_tmod m 16).symm
  refine ⟨by decide,_,e1,by decide,_,e1,((m/16+1:Nat):Int),by rw [wrap_u8];omega,?_⟩
  refine ⟨m/16+1,m/16,rfl,rfl,by show m/16+1<=16;omega,by omega,?_⟩
  refine ⟨by decide,_,e2,by decide,_,e2,((m%16+1:Nat):Int),by rw [wrap_u8];omega,?_⟩
  refine ⟨m%16+1,m%16,rfl,rfl,by show m%16+1<=16;omega,by omega,?_⟩
  have z1:(digS.extract (m/16) (m/16+1)).size<=1:=by rw [ByteArray.size_extract];omega
  have z2:(digS.extract (m%16) (m%16+1)).size<=1:=by rw [ByteArray.size_extract];omega
  have z3:(mkS (hexB (l.take k))).size<=2000000:=by show (hexB (l.take k)).toArray.size<=_;rw [List.size_toArray];omega
  have hf:mkS (hexB (l.take k))++(digS.extract (m/16) (m/16+1)++digS.extract (m%16) (m%16+1))=mkS (hexB (l.take (k+1))):=by
   rw [z_wm (by omega),z_wm (by omega),z_aq,z_aq,hsn,z_r0,hm]
  refine ⟨by show (digS.extract (m/16) (m/16+1)).size+(digS.extract (m%16) (m%16+1)).size<=maxLen;omega,by show (mkS (hexB (l.take k))).size+(digS.extract (m/16) (m/16+1)++digS.extract (m%16) (m%16+1)).size<=maxLen;rw [ByteArray.size_append];omega,?_⟩
  refine ⟨((k+1:Nat):Int),by rw [wrap_i64 (by omega) (by omega)];rfl,?_⟩
  refine ⟨k+1,by omega,by omega,?_⟩
  rw [<-hf]
  exact Ent.same ⟨rfl,rfl,rfl,rfl,trivial⟩ rfl
 ·have hge0: ¬(k:Int)<l.length:=hge
  obtain rfl:k=l.length:=by omega
  rw [List.take_length]
  intro β w' hs
  exact hs.fin [] ⟨rfl,rfl⟩
theorem z_uS (url:Bool) {n:Nat} (h:n<64):runC (letA url n)=true:=by
 have key: ∀u:Bool,∀n:_root_.Fin 64,runC (letA u n.1)=true:=by decide+kernel
 exact key url ⟨n,h⟩
theorem z_u5 (url:Bool) (p:List UInt8): ∀x∈b64L url p,runC x=true:=by
 intro x hx
 obtain ⟨v,hv,rfl⟩:=List.mem_map.1 hx
 exact z_uS url (z_sX p v hv)
theorem z_mq (url:Bool) (p:List UInt8):(b64L url p).length=(8*p.length+5)/6:=by unfold b64L;rw [List.length_map,z_kM]
end Go.Proofs.YtloeaiafphkjnaaGreatDoor.Sx
namespace Go.Proofs.YtloeaiafphkjnaaGreatDoor.Sx
open Go Go.Maps Go.Shelf Go.RowKit
attribute [local irreducible] Calls
theorem z_rp {b ty:Nat} {v:Value} {w:World} (h:(bkF b ty [v]).p w):w.cell? ⟨b,0,none⟩=some v:=by
 have hb:w.heap[b]?=some (.cells [v].toArray ty (0,0)):=h
 rw [cell_of_row w b 0 _ _ _ hb]
 rfl
theorem z_sL {w w':World} (h:Below w.heap.size w w'):Chg None_ w w':=⟨h.os,h.tape,h.output,h.size,fun k hk _=>h.block k hk⟩
theorem sortsS (m:Nat):AnyZ.SortsIn Tryz.prog Tryz.sorted125_ren Fence.wide m:=
  ⟨fun blk off cap ss W hH hblk hsz=>callsIn_wide.2 (AnyM.slices_Sort_string Tryz.sort54 blk off cap ss W hH hblk hsz),
   fun p cap W=>callsIn_wide.2 (AnyM.slices_Sort_string_none Tryz.sort54 p cap W)⟩
abbrev trowF (A:Option Addr) (l:List ByteArray) (c:Nat):Fact:=rowF z_ag 1 (.slice A l.length c) l.length (l.map Value.string)
theorem z_q5 {P:Program} {k:FuncId} {args:Array Value} {w:World} {l:List ByteArray} (h:Calls P k args w fun en w'=> ∃v,en= .returned v/\w'.ownsRow w.heap.size z_ag 1 v l.length (l.map Value.string)/\Below w.heap.size w w'):
  Con P k args w [] fun v Fs=> ∃A c,v= .slice A l.length c/\(0<l.length-> ∃ad,A=some ad)/\Fs=[trowF A l c]:=by
 refine Calls.mono h ?_
 rintro en w' ⟨v,rfl,ho,hb⟩
 obtain ⟨A,c,rfl,hA⟩: ∃A c,v= .slice A l.length c/\(0<l.length-> ∃ad,A=some ad):=by
  rcases ho.2 with ⟨rfl,h0⟩ | ⟨g,cap,cur,rfl,_⟩
  ·exact ⟨none,0,by rw [h0],fun h=>absurd h0 (by omega)⟩
  ·exact ⟨_,_,rfl,fun _=>⟨_,rfl⟩⟩
 refine ⟨_,rfl,[trowF A l c],⟨A,c,rfl,hA,rfl⟩,by rw [Un.nil];exact z_sL hb,⟨fun g hg=>?_,fun g hg k hk=>?_,List.pairwise_singleton _ _⟩,⟨rfl,trivial⟩,fun g hg k hk=>?_⟩
 ·obtain rfl:=List.mem_singleton.1 hg;exact ownsRow_base_a ho (Nat.zero_le _)
 ·obtain rfl:=List.mem_singleton.1 hg;exact (ho.lt k hk).2
 ·obtain rfl:=List.mem_singleton.1 hg;exact .inr (ho.lt k hk).1
theorem z_oc {ss:List (List UInt8)} {l:List ByteArray} (h:ss.Perm (l.map fun s=>s.data.toList)):(ss.mergeSort (fun x y=>decide (x<=y))).map Proofs.encStr=(sortK l).map Value.string:=by
 unfold sortK
 rw [List.map_map]
 have e:ss.mergeSort leB=(l.map fun s=>s.data.toList).mergeSort leB:=mergeSort_of_perm h
 show (ss.mergeSort leB).map _=_
 rw [e]
 exact List.map_congr_left fun a _=>rfl
theorem z_t4 (w:World) (mb:Option Nat):Con Tryz.prog 126 #[.map mb] w [] fun v Fs=> ∃B,v= .func (.func 174) #[] #[.pointer (some ⟨B,0,none⟩)]/\Fs=[bkF B 113 [.map mb]]:=by
 have h:=AnyZ.keys_in Tryz.keys126 Fence.wide 5 trivial rfl mb w
 refine Calls.mono (callsIn_wide.1 h) ?_
 rintro e w' ⟨rfl,rfl⟩
 refine ⟨_,rfl,[bkF w.heap.size 113 [.map mb]],⟨_,rfl,rfl⟩,by rw [Un.nil];exact Chg.alloc w _,⟨fun g hg=>?_,fun g hg k hk=>?_,List.pairwise_singleton _ _⟩,⟨rfl,trivial⟩,fun g hg k hk=>?_⟩
 ·obtain rfl:=List.mem_singleton.1 hg;exact heap_alloc_new w _
 ·obtain rfl:=List.mem_singleton.1 hg
  obtain rfl:k=w.heap.size:=hk
  simp
 ·obtain rfl:=List.mem_singleton.1 hg
  obtain rfl:k=w.heap.size:=hk
  exact .inr (Nat.le_refl _)
theorem z_qg (w:World) (B b:Nat) (l:ML) (ho:KeysOk l) (hl:l.length<=1000000) (hm:Mem w [bkF B 113 [.map (some b)],mapF b l]):
  Con Tryz.prog 125 #[.func (.func 174) #[] #[.pointer (some ⟨B,0,none⟩)]] w [] fun v Fs=> ∃A c,v= .slice A (sortK (l.map (·.1))).length c/\(0<(sortK (l.map (·.1))).length-> ∃ad,A=some ad)/\Fs=[trowF A (sortK (l.map (·.1))) c]:=by
 have hml:=maxLen_eq
 have hB:=hm.fact _ List.mem_cons_self
 have hbm:mapP b l w:=hm.fact (mapF b l) (by simp)
 have hBl:B<w.heap.size:=hm.flt _ List.mem_cons_self B rfl
 obtain ⟨D,hown,hperm,hsz⟩:=z_rE (P:=Tryz.prog) (k:=z_ag) Tryz.underlying9 hbm ho hl
 have hseq:SeqGives Fence.wide 2 Tryz.prog 174 #[.pointer (some ⟨B,0,none⟩)] Proofs.encStr (fun ss=>ss.Perm (strKeys D)) (Maps.size D) w:=
  AnyZ.keys_gives (ρ:=Tryz.keys126_ren) {Tryz.keys126 with} Fence.wide _ trivial rfl (by omega) B b l.length D w hBl (z_rp hB) hown
 have cS:=AnyZ.sorted_in Tryz.sorted125 Fence.wide 5 trivial trivial trivial trivial rfl (by omega) (sortsS _) (enters_of Tryz.func54 (by kernel_rfl) rfl) 174 #[.pointer (some ⟨B,0,none⟩)] trivial (enters_of Tryz.func174 (by kernel_rfl) rfl) _ _ (by omega) (by omega) w hseq
 have hlen:(sortK (l.map (·.1))).length=l.length:=by rw [z_kY,List.length_map]
 refine z_q5 (Calls.mono (callsIn_wide.1 cS) ?_)
 rintro e w' ⟨v,ss,rfl,hS,hrow,_,hb⟩
 have hp2:ss.Perm ((l.map (·.1)).map fun s=>s.data.toList):=by
  rw [List.map_map]
  exact hS.trans hperm
 have hsl:ss.length=(sortK (l.map (·.1))).length:=by rw [hlen,hp2.length_eq];simp
 rw [z_oc hp2,hsl] at hrow
 exact ⟨v,rfl,hrow,hb⟩
theorem z_xK (w:World) (mb:Option Nat):Con Tryz.prog 128 #[.map mb] w [] fun v Fs=> ∃B,v= .func (.func 175) #[] #[.pointer (some ⟨B,0,none⟩)]/\Fs=[bkF B 144 [.map mb]]:=by
 have h:=AnyZ.keys_in Tryz.keys128 Fence.wide 5 trivial rfl mb w
 refine Calls.mono (callsIn_wide.1 h) ?_
 rintro e w' ⟨rfl,rfl⟩
 refine ⟨_,rfl,[bkF w.heap.size 144 [.map mb]],⟨_,rfl,rfl⟩,by rw [Un.nil];exact Chg.alloc w _,⟨fun g hg=>?_,fun g hg k hk=>?_,List.pairwise_singleton _ _⟩,⟨rfl,trivial⟩,fun g hg k hk=>?_⟩
 ·obtain rfl:=List.mem_singleton.1 hg;exact heap_alloc_new w _
 ·obtain rfl:=List.mem_singleton.1 hg
  obtain rfl:k=w.heap.size:=hk
  simp
 ·obtain rfl:=List.mem_singleton.1 hg
  obtain rfl:k=w.heap.size:=hk
  exact .inr (Nat.le_refl _)
theorem z_th (w:World) (B b:Nat) (l:ML) (ho:KeysOk l) (hl:l.length<=1000000) (hm:Mem w [bkF B 144 [.map (some b)],mapF b l]):
  Con Tryz.prog 125 #[.func (.func 175) #[] #[.pointer (some ⟨B,0,none⟩)]] w [] fun v Fs=> ∃A c,v= .slice A (sortK (l.map (·.1))).length c/\(0<(sortK (l.map (·.1))).length-> ∃ad,A=some ad)/\Fs=[trowF A (sortK (l.map (·.1))) c]:=by
 have hml:=maxLen_eq
 have hB:=hm.fact _ List.mem_cons_self
 have hbm:mapP b l w:=hm.fact (mapF b l) (by simp)
 have hBl:B<w.heap.size:=hm.flt _ List.mem_cons_self B rfl
 obtain ⟨D,hown,hperm,hsz⟩:=z_rE (P:=Tryz.prog) (k:=z_ag) Tryz.underlying9 hbm ho hl
 have hseq:SeqGives Fence.wide 2 Tryz.prog 175 #[.pointer (some ⟨B,0,none⟩)] Proofs.encStr (fun ss=>ss.Perm (strKeys D)) (Maps.size D) w:=
  AnyZ.keys_gives (ρ:=Tryz.keys128_ren) {Tryz.keys128 with} Fence.wide _ trivial rfl (by omega) B b l.length D w hBl (z_rp hB) hown
 have cS:=AnyZ.sorted_in Tryz.sorted125 Fence.wide 5 trivial trivial trivial trivial rfl (by omega) (sortsS _) (enters_of Tryz.func54 (by kernel_rfl) rfl) 175 #[.pointer (some ⟨B,0,none⟩)] trivial (enters_of Tryz.func175 (by kernel_rfl) rfl) _ _ (by omega) (by omega) w hseq
 have hlen:(sortK (l.map (·.1))).length=l.length:=by rw [z_kY,List.length_map]
 refine z_q5 (Calls.mono (callsIn_wide.1 cS) ?_)
 rintro e w' ⟨v,ss,rfl,hS,hrow,_,hb⟩
 have hp2:ss.Perm ((l.map (·.1)).map fun s=>s.data.toList):=by
  rw [List.map_map]
  exact hS.trans hperm
 have hsl:ss.length=(sortK (l.map (·.1))).length:=by rw [hlen,hp2.length_eq];simp
 rw [z_oc hp2,hsl] at hrow
 exact ⟨v,rfl,hrow,hb⟩
end Go.Proofs.YtloeaiafphkjnaaGreatDoor.Sx
namespace Go.Proofs.YtloeaiafphkjnaaGreatDoor.Sx
open Go
attribute [local irreducible] Calls
abbrev prowF (A:Option Addr) (L:List (List UInt8)) (c:Nat):Fact:=rowF z_ag 1 (.slice A L.length c) L.length (L.map fun x=>Value.string (mkS x))
theorem z_eJ (l:List UInt8) (i j:Nat) (_hj:j<=l.length):(mkS l).extract i j=mkS ((l.take j).drop i):=by
 apply ByteArray.ext
 simp [mkS,List.extract_eq_take_drop]
 rw [List.drop_take]
theorem z_oJ (w:World) (s:List UInt8) (d:UInt8) (hs:s.length<=1000000):Con Tryz.prog z_dW #[.string (mkS s),byte d] w [] fun v Fs=> ∃ad c,v= .slice (some ad) (splL d s).length c/\(splL d s).length<=c/\Fs=[prowF (some ad) (splL d s) c]:=by
 have g:=z_f9 w (Un [])
 refine z_ac (cx:=z_df w (Un [])) g z_iH rfl rfl (β:=Va.z) [.c (.v (.string (mkS s))),.c (.v (byte d))] 0 [] [] rfl rfl (Sat.start rfl) ?_
 refine z_ai (ι:=Nat×Nat×List (List UInt8)×Option Addr×Nat) 0 (fun i=>[(0,.c (.v (.string (mkS s)))),(1,.c (.v (byte d))),(4,.c (.v (.slice none 0 0))),(5,.c (.v (.slice i.2.2.2.1 i.2.2.1.length i.2.2.2.2))),(6,.c (.v (.int .i64 (i.2.1:Int)))),(7,.c (.v (.int .i64 (i.1:Int))))]) (fun _=>[]) (fun i=>[prowF i.2.2.2.1 i.2.2.1 i.2.2.2.2])
  (fun i=>i.2.1<=i.1/\i.1<=s.length+1/\i.2.2.1.length<=i.1/\((i.1<=s.length/\i.2.2.1++att ((s.take i.1).drop i.2.1) (splL d (s.drop i.1))=splL d s)\/(i.1=s.length+1/\i.2.2.1=splL d s))) (fun i=>s.length+1 - i.1) (0,0,[],none,0) ⟨Nat.le_refl _,by omega,Nat.le_refl _,.inl ⟨by omega,by simpa using z_sZ (z_hv d s)⟩⟩ (Ent.mk' ⟨rfl,rfl,rfl,rfl,rfl,rfl,trivial⟩ rfl (fun β w' hs=>by exact (hs.nilRow z_ag 1))) g ?_
 rintro ⟨k,fr,L,A,c⟩ ⟨h1,h2,h3,h4⟩
 simp only at h1 h2 h3 h4
 simp only
 have hsz:(mkS s).size=s.length:=by simp [mkS,ByteArray.size]
 refine BIf.dec (fun hk=>?_) (fun hk=>?_)
 ·have hk0:(k:Int)<=(s.length:Int):=hk
  have hkn:k<=s.length:=by omega
  obtain ⟨_,h4⟩ | ⟨h4,_⟩:=h4
  case inr=>omega
  refine BIf.dec (fun hq=>?_) (fun hq=>?_)
  ·have hq0:(k:Int)=(s.length:Int):=hq
   have hks:k=s.length:=by omega
   have hfin:L++[(s.take k).drop fr]=splL d s:=by
    rw [<-h4,List.drop_of_length_le (by omega:s.length<=k)]
    simp [splL,att]
   refine ⟨k,fr,rfl,rfl,by omega,h1,?_⟩
   rw [z_eJ s fr k hkn]
   intro b1
   refine ⟨1,L.length,L.length+1,_,[.string (mkS ((s.take k).drop fr))],_,rfl,fun β w hs=>z_an (hs.get 0 rfl),(fun u hu=>by obtain rfl:=List.mem_singleton.1 hu;rfl),rfl,rfl,by rw [maxLen_eq];omega,by show (L.length+1)*16<=_;omega,?_⟩
   intro A' c' q1 q2 q3
   refine ⟨((k+1:Nat):Int),by rw [wrap_i64 (by omega) (by omega)];rfl,?_⟩
   refine ⟨((k+1:Nat):Int),by rw [wrap_i64 (by omega) (by omega)];rfl,?_⟩
   have hle:(L++[(s.take k).drop fr]).length=L.length+1:=by simp
   refine ⟨(k+1,k+1,L++[(s.take k).drop fr],A',c'),⟨Nat.le_refl _,by show k+1<=_;omega,by show (L++[(s.take k).drop fr]).length<=k+1;omega,.inr ⟨by show k+1=_;omega,hfin⟩⟩,by show s.length+1 - (k+1)<s.length+1 - k;omega,?_⟩
   simp only [hle]
   refine Ent.mk' ⟨rfl,rfl,rfl,rfl,rfl,rfl,trivial⟩ rfl (fun β w' hs=>?_)
   have e:prowF A' (L++[(s.take k).drop fr]) c'=rowF z_ag 1 (.slice A' (L.length+1) c') (L.length+1) (L.map (fun x=>Value.string (mkS x))++[.string (mkS ((s.take k).drop fr))]):=by
    simp only [prowF,hle,List.map_append,List.map_cons,List.map_nil]
   rw [e]
   exact (hs.keepB (List.nil_sublist _)).perm [1]
  ·have hq0: ¬(k:Int)=(s.length:Int):=hq
   have hkl:k<s.length:=by omega
   obtain ⟨b,hb⟩: ∃b,s[k]?=some b:=⟨_,List.getElem?_eq_getElem hkl⟩
   refine ⟨k,b,rfl,by rw [mkSo];exact hb,?_⟩
   have hdr:s.drop k=b::s.drop (k+1):=by
    rw [List.drop_eq_getElem_cons hkl,List.getElem?_eq_getElem hkl] at *
    rw [Option.some.inj hb]
   rw [hdr,z_fI] at h4
   refine BIf.dec (fun hbd=>?_) (fun hbd=>?_)
   ·have hbd0:(b.toNat:Int)=(d.toNat:Int):=hbd
    have hbe:b=d:=UInt8.toNat_inj.1 (by omega)
    rw [if_pos hbe] at h4
    refine ⟨k,fr,rfl,rfl,by omega,h1,?_⟩
    rw [z_eJ s fr k hkn]
    intro b1
    refine ⟨1,L.length,L.length+1,_,[.string (mkS ((s.take k).drop fr))],_,rfl,fun β w hs=>z_an (hs.get 0 rfl),(fun u hu=>by obtain rfl:=List.mem_singleton.1 hu;rfl),rfl,rfl,by rw [maxLen_eq];omega,by show (L.length+1)*16<=_;omega,?_⟩
    intro A' c' q1 q2 q3
    refine ⟨((k+1:Nat):Int),by rw [wrap_i64 (by omega) (by omega)];rfl,?_⟩
    refine ⟨((k+1:Nat):Int),by rw [wrap_i64 (by omega) (by omega)];rfl,?_⟩
    have hle:(L++[(s.take k).drop fr]).length=L.length+1:=by simp
    refine ⟨(k+1,k+1,L++[(s.take k).drop fr],A',c'),⟨Nat.le_refl _,by show k+1<=_;omega,by show (L++[(s.take k).drop fr]).length<=k+1;omega,.inl ⟨by show k+1<=_;omega,by rw [show ((s.take (k+1)).drop (k+1))=[] from List.drop_of_length_le (by rw [List.length_take];omega),z_sZ (z_hv _ _),List.append_assoc];simpa [att] using h4⟩⟩,by show s.length+1 - (k+1)<s.length+1 - k;omega,?_⟩
    simp only [hle]
    refine Ent.mk' ⟨rfl,rfl,rfl,rfl,rfl,rfl,trivial⟩ rfl (fun β w' hs=>?_)
    have e:prowF A' (L++[(s.take k).drop fr]) c'=rowF z_ag 1 (.slice A' (L.length+1) c') (L.length+1) (L.map (fun x=>Value.string (mkS x))++[.string (mkS ((s.take k).drop fr))]):=by
     simp only [prowF,hle,List.map_append,List.map_cons,List.map_nil]
    rw [e]
    exact (hs.keepB (List.nil_sublist _)).perm [1]
   ·have hbd0: ¬(b.toNat:Int)=(d.toNat:Int):=hbd
    have hbe: ¬b=d:=fun e=>hbd0 (by rw [e])
    rw [if_neg hbe,z_w3] at h4
    have htk:(s.take (k+1)).drop fr=(s.take k).drop fr++[b]:=by
     rw [List.take_add_one,hb,List.drop_append_of_le_length (by rw [List.length_take];omega)]
     rfl
    refine ⟨((k+1:Nat):Int),by rw [wrap_i64 (by omega) (by omega)];rfl,?_⟩
    refine ⟨(k+1,fr,L,A,c),⟨by show fr<=k+1;omega,by show k+1<=_;omega,by show L.length<=k+1;omega,.inl ⟨by show k+1<=_;omega,by show L++att ((s.take (k+1)).drop fr) _=_;rw [htk];exact h4⟩⟩,by show s.length+1 - (k+1)<s.length+1 - k;omega,?_⟩
    exact Ent.mk' ⟨rfl,rfl,rfl,rfl,rfl,rfl,trivial⟩ rfl (fun β w' hs=>hs)
 ·have hk0: ¬(k:Int)<=(s.length:Int):=hk
  obtain ⟨h4,_⟩ | ⟨_,h4⟩:=h4
  ·omega
  ·subst h4
   intro β w' hs
   have h0:0<(splL d s).length:=List.length_pos_iff.2 (z_hv d s)
   obtain ⟨ad,rfl,_⟩:=(z_an (hs.get 0 rfl)).2 (by simpa using h0)
   have hc:(splL d s).length<=c:=by
    have hr:w'.ownsRow 0 z_ag 1 (.slice (some ad) (splL d s).length c) (splL d s).length ((splL d s).map fun x=>Value.string (mkS x)):=hs.get 0 rfl
    rcases hr.2 with ⟨q,_⟩ | ⟨gb,cap,cur,hv,_,_,q,_⟩
    ·cases q
    ·injection hv with _ _ q3
     omega
   exact hs.fin [0] ⟨ad,c,rfl,hc,rfl⟩
theorem z_j9 (d:UInt8): ∀s:List UInt8,(splL d s).length<=s.length+1
 | []=>Nat.le_refl _
 | c::r=>by
  have ih:=z_j9 d r
  rw [z_fI]
  split
  ·simp only [List.length_cons];omega
  ·cases h:splL d r with
   | nil=>exact absurd h (z_hv d r)
   | cons a t=>rw [h] at ih;simp only [att,List.length_cons] at ih ⊢;omega
theorem Rd.pre1 {w:World} {ad:Addr} {n:Nat} {xs:List Value} (h:Rd 1 (some ad) n xs w) (k:Nat) (hk:k<=n):Rd 1 (some ad) k (xs.take k) w:=by
 have hl:=h.1
 refine ⟨by rw [List.length_take];omega,fun h0=>?_⟩
 obtain ⟨ad',q,hc⟩:=h.2 (by omega)
 refine ⟨ad',q,fun j u hu=>hc j u ?_⟩
 have:=(List.getElem?_eq_some_iff.1 hu).1
 rw [List.length_take] at this
 rw [List.getElem?_take,if_pos (by omega)] at hu
 exact hu
theorem z_vO (w:World) (s:List UInt8) (hs:s.length<=1000000):Con Tryz.prog z_dx #[.string (mkS s)] w [] fun v Fs=> ∃ad c X,v= .slice (some ad) (lnL s).length c/\X.own=true/\(∀w,X.p w->Rd 1 (some ad) (lnL s).length ((lnL s).map fun x=>Value.string (mkS x)) w)/\(lnL s).length<=c/\Fs=[X]:=by
 have g:=z_f8 w (Un [])
 refine z_ac (cx:=z_dc w (Un [])) g z_iL rfl rfl (β:=Va.z) [.c (.v (.string (mkS s)))] 0 [] [] rfl rfl (Sat.start rfl) ?_
 refine z_aa [] (fun β w' hs'=>z_oJ w' s 10 hs) ?_
 rintro v Fs ⟨ad,c,rfl,hc,rfl⟩
 have hn:=z_hv 10 s
 have hl:=z_j9 10 s
 have hln:lnL s=if (splL 10 s).getLast?=some [] then (splL 10 s).dropLast else splL 10 s:=rfl
 generalize splL 10 s=M at hn hl hln hc ⊢
 have h0:0<M.length:=List.length_pos_iff.2 hn
 obtain ⟨x,hx⟩: ∃x,M[M.length - 1]?=some x:=⟨_,List.getElem?_eq_getElem (by omega)⟩
 have hx':M.getLast?=some x:=by rw [List.getLast?_eq_getElem?];exact hx
 refine ⟨((M.length - 1:Nat):Int),by rw [wrap_i64 (by omega) (by omega)];omega,?_⟩
 refine ⟨ad,M.length - 1,rfl,rfl,by omega,?_⟩
 refine ⟨.string (mkS x),fun β w' hs=>?_,?_⟩
 ·exact Rd.cell1 (z_an (hs.get 0 rfl)) (by simp [hx])
 refine BIf.dec (fun hq=>?_) (fun hq=>?_)
 ·refine ⟨(((M.length - 1):Nat):Int),by rw [wrap_i64 (by omega) (by omega)];omega,?_⟩
  refine ⟨c,M.length - 1,0,M.length - 1,c,_,rfl,rfl,rfl,Nat.le_refl _,?_,Nat.zero_le _,rfl,rfl,rfl,?_⟩
  ·omega
  have hx0:x=[]:=mkS1 hq
  rw [hx',hx0,if_pos rfl] at hln
  have hll:(lnL s).length=M.length - 1:=by rw [hln,List.length_dropLast]
  intro β w' hs
  refine hs.fin [0] ⟨ad,c,prowF (some ad) M c,?_,rfl,fun w h=>?_,by omega,rfl⟩
  ·rw [hll,show cutA (some ad) c 0 ti9.size=some ad from by simp [cutA,Addr.add]]
   rfl
  ·have h1:=Rd.pre1 (z_an h) (M.length - 1) (by omega)
   rw [hll,hln,List.dropLast_eq_take,List.map_take]
   exact h1
 ·have hx0: ¬x=[]:=fun e=>hq (by rw [e];rfl)
  rw [hx',if_neg (fun e=>hx0 (Option.some.inj e))] at hln
  rw [hln]
  intro β w' hs
  exact hs.fin [0] ⟨ad,c,prowF (some ad) M c,rfl,rfl,fun w h=>z_an h,hc,rfl⟩
def isD (c:UInt8):Bool:=decide (48<=c.toNat/\c.toNat<=57)
def valD (s:List UInt8):Nat:=s.foldl (fun n c=>10*n+(c.toNat - 48)) 0
def rnum (s:List UInt8):Option Nat:=if s.all isD=true/\s.length<=18/\s≠[]/\(s.length=1\/s.head?≠some 48) then some (valD s) else none
theorem z_m6 (l:List UInt8) (c:UInt8):valD (l++[c])=10*valD l+(c.toNat - 48):=by simp [valD]
theorem z_tn: ∀(l:List UInt8) (a k:Nat),a<10^k->l.all isD=true->l.foldl (fun n c=>10*n+(c.toNat - 48)) a<10^(k+l.length)
 | [],a,k,ha,_=>ha
 | c::r,a,k,ha,h=>by
  simp only [List.all_cons,Bool.and_eq_true] at h
  have hc:48<=c.toNat/\c.toNat<=57:=by simpa [isD] using h.1
  have:=z_tn r (10*a+(c.toNat - 48)) (k+1) (by rw [Nat.pow_succ];omega) h.2
  rw [List.length_cons,<-Nat.add_assoc,Nat.add_right_comm]
  exact this
theorem z_xI {l:List UInt8} (h:l.all isD=true):valD l<10^l.length:=by
 have:=z_tn l 0 0 (by decide) h
 rwa [Nat.zero_add] at this
theorem z_rL {s:List UInt8} {c:UInt8} (hc:c∈s) (h:isD c=false):rnum s=none:=by
 unfold rnum
 rw [if_neg]
 rintro ⟨h1,_⟩
 have:=List.all_eq_true.1 h1 c hc
 rw [h] at this
 cases this
theorem z_nG (w:World) (s:List UInt8) (hs:s.length<=1000000):Con Tryz.prog z_do #[.string (mkS s)] w [] fun v Fs=>(∃(n:Nat) (b:Bool),v= .tuple #[.int .u64 (n:Int),.bool b]/\((b=true/\rnum s=some n)\/(b=false/\rnum s=none)))/\Fs=[]:=by
 have g:=z_fx w (Un [])
 refine z_ac (cx:=z_cG w (Un [])) g z_ii rfl rfl (β:=Va.z) [.c (.v (.string (mkS s)))] 0 [] [] rfl rfl (Sat.start rfl) ?_
 refine z_ai (ι:=Nat) 0 (fun k=>[(0,.c (.v (.string (mkS s)))),(2,.c (.v (.int .u64 0))),(3,.c (.v (.bool false))),(4,.c (.v (.int .u64 ((valD (s.take k):Nat):Int)))),(5,.c (.v (.int .i64 (k:Int))))]) (fun _=>[]) (fun _=>[])
  (fun k=>k<=s.length/\k<=18/\(s.take k).all isD=true) (fun k=>s.length - k) 0 ⟨Nat.zero_le _,Nat.zero_le _,rfl⟩ (Ent.mk' ⟨rfl,rfl,rfl,rfl,rfl,trivial⟩ rfl (fun β w' hs=>hs)) g ?_
 rintro k ⟨hk,hk18,hd⟩
 refine BIf.dec (fun hlt=>?_) (fun hge=>?_)
 ·have hlt0:(k:Int)<(s.length:Int):=hlt
  have hkl:k<s.length:=by omega
  obtain ⟨c,hc⟩: ∃c,s[k]?=some c:=⟨_,List.getElem?_eq_getElem hkl⟩
  have hcm:c∈s:=List.mem_of_getElem? hc
  refine ⟨k,c,rfl,by rw [mkSo];exact hc,?_⟩
  refine BIf.dec (fun h1=>?_) (fun h1=>?_)
  ·have h10:(c.toNat:Int)<48:=h1
   intro β w' hs
   exact hs.fin [] ⟨⟨0,false,rfl,.inr ⟨rfl,z_rL hcm (by unfold isD;exact decide_eq_false (by omega))⟩⟩,rfl⟩
  have h10: ¬(c.toNat:Int)<48:=h1
  refine ⟨k,c,rfl,by rw [mkSo];exact hc,?_⟩
  refine BIf.dec (fun h2=>?_) (fun h2=>?_)
  ·have h20:(57:Int)<(c.toNat:Int):=h2
   intro β w' hs
   exact hs.fin [] ⟨⟨0,false,rfl,.inr ⟨rfl,z_rL hcm (by unfold isD;exact decide_eq_false (by omega))⟩⟩,rfl⟩
  have h20: ¬(57:Int)<(c.toNat:Int):=h2
  refine BIf.dec (fun h3=>?_) (fun h3=>?_)
  ·have h30:(17:Int)<(k:Int):=h3
   intro β w' hs
   exact hs.fin [] ⟨⟨0,false,rfl,.inr ⟨rfl,by unfold rnum;rw [if_neg (fun q=>by omega)]⟩⟩,rfl⟩
  have h30: ¬(17:Int)<(k:Int):=h3
  have htk:s.take (k+1)=s.take k++[c]:=by rw [List.take_add_one,hc];rfl
  have hlt1:=z_xI hd
  have hp:(10:Nat)^(s.take k).length<=10^17:=Nat.pow_le_pow_right (by decide) (by rw [List.length_take];omega)
  have hp2:(10:Nat)^17=100000000000000000:=by decide
  rw [hp2] at hp
  have hcn:=c.toNat_lt
  obtain ⟨x,hx⟩: ∃x,valD (s.take k)=x:=⟨_,rfl⟩
  rw [hx] at hlt1 ⊢
  have hx2:valD (s.take (k+1))=10*x+(c.toNat - 48):=by rw [htk,z_m6,hx]
  refine ⟨((10*x:Nat):Int),by rw [IntKind.wrap_u64];omega,?_⟩
  refine ⟨k,c,rfl,by rw [mkSo];exact hc,?_⟩
  refine ⟨((c.toNat - 48:Nat):Int),by rw [IntKind.wrap_u8];omega,?_⟩
  refine ⟨((c.toNat - 48:Nat):Int),by rw [IntKind.wrap_u64];omega,?_⟩
  refine ⟨((10*x+(c.toNat - 48):Nat):Int),by rw [IntKind.wrap_u64];omega,?_⟩
  refine ⟨((k+1:Nat):Int),by rw [wrap_i64 (by omega) (by omega)];rfl,?_⟩
  refine ⟨k+1,⟨by omega,by omega,?_⟩,by omega,?_⟩
  ·rw [htk,List.all_append,hd]
   simp only [List.all_cons,List.all_nil,Bool.and_true,Bool.true_and]
   unfold isD
   exact decide_eq_true (by omega)
  ·simp only [hx2]
   exact Ent.mk' ⟨rfl,rfl,rfl,rfl,rfl,trivial⟩ rfl (fun β w' hs=>hs)
 ·have hge0: ¬(k:Int)<(s.length:Int):=hge
  have hke:k=s.length:=by omega
  subst hke
  rw [List.take_length] at hd ⊢
  refine z_aj g z_gJ (by kernel_rfl) [] [] Sub.refl ?_
  refine BIf.dec (fun h0=>?_) (fun h0=>?_)
  ·have h00:(0:Int)<(s.length:Int):=h0
   have hne:s≠[]:=fun e=>by rw [e] at h00;exact absurd h00 (by decide)
   refine BIf.dec (fun h1=>?_) (fun h1=>?_)
   ·have h10:(s.length:Int)=1:=h1
    intro β w' hs
    exact hs.fin [] ⟨⟨valD s,true,rfl,.inl ⟨rfl,by unfold rnum;rw [if_pos ⟨hd,hk18,hne,.inl (by omega)⟩]⟩⟩,rfl⟩
   ·have h10: ¬(s.length:Int)=1:=h1
    obtain ⟨c,r,e⟩: ∃c r,s=c::r:=by
     cases s with
     | nil=>exact absurd rfl hne
     | cons c r=>exact ⟨c,r,rfl⟩
    refine ⟨0,c,rfl,by rw [mkSo,e];rfl,?_⟩
    intro β w' hs
    refine hs.fin [] ⟨⟨valD s,!decide ((c.toNat:Int)=48),rfl,?_⟩,rfl⟩
    by_cases h48:c=48
    ·refine .inr ⟨by rw [h48];rfl,?_⟩
     unfold rnum
     rw [if_neg]
     rintro ⟨_,_,_,q | q⟩
     ·omega
     ·exact q (by rw [e,h48];rfl)
    ·have h48n: ¬(c.toNat:Int)=48:=fun q=>h48 (UInt8.toNat_inj.1 (by show c.toNat=48;omega))
     refine .inl ⟨by simp [h48n],?_⟩
     unfold rnum
     rw [if_pos ⟨hd,hk18,hne,.inr (by rw [e];exact fun q=>h48 (Option.some.inj q))⟩]
  ·have h00: ¬(0:Int)<(s.length:Int):=h0
   have he:s=[]:=List.length_eq_zero_iff.1 (by omega)
   intro β w' hs
   exact hs.fin [] ⟨⟨valD s,false,rfl,.inr ⟨rfl,by unfold rnum;rw [if_neg (fun q=>q.2.2.1 he)]⟩⟩,rfl⟩
theorem z_p9 (w:World) (a:Addr) (k r:Nat):(w.freeze a k).shape? r=w.shape? r:=by
 unfold World.freeze
 split
 ·rfl
 ·unfold World.shape?
  simp only [Array.getElem?_modify]
  by_cases h:a.block=r
  ·rw [if_pos h]
   cases hw:w.heap[r]? with
   | none=>rfl
   | some o=>cases o<;>simp
  ·rw [if_neg h]
def fzP (g:Nat) (l:List UInt8) (w:World):Prop:=(∃cells,w.shape? g=some (z_ab,cells)/\l.length<=cells)/\ ∀j x,l[j]?=some x->w.cell? ((⟨g,0,none⟩:Addr).add j)=some (.int .u8 x.toNat)
def fzF (g:Nat) (l:List UInt8):Fact where
 own:=true
 D:=fun k=>k=g
 p:=fzP g l
 st:=fun w w' hs h=>by
  have e:w'.heap[g]?=w.heap[g]?:=hs g rfl
  obtain ⟨⟨cs,h1,h2⟩,h3⟩:=h
  refine ⟨⟨cs,by unfold World.shape?;rw [e];exact h1,h2⟩,fun j x hj=>?_⟩
  rw [<-h3 j x hj]
  unfold World.cell?
  rw [show ((⟨g,0,none⟩:Addr).add j).block=g from by unfold Addr.add;split<;>rfl,e]
theorem z_tm {A:Option Addr} {l:List UInt8} {c:Nat} {w:World} (hne:l≠[]) (h:(browF z_ab A l c).p w): ∃g,A=some ⟨g,0,none⟩/\l.length<=c/\c<=maxLen/\fzP g l w/\ ∀k,(browF z_ab A l c).D k↔k=g:=by
 have hl0:l.length≠0:=by simpa using hne
 have hrow:w.ownsRow 0 z_ab 1 (.slice A l.length c) l.length (l.map byte):=h
 have hr:=z_an hrow
 rcases hrow.2 with ⟨_,hz⟩ | ⟨gb,cap,cur,hv,_,hg,h1,h2,h3,_⟩
 ·exact absurd hz hl0
 ·injection hv with h4 h5 h6
  subst h4 h6
  obtain ⟨ad,q,hc⟩:=hr.2 (by omega)
  obtain rfl:=Option.some.inj q
  refine ⟨gb,rfl,h1,h2,⟨⟨cur.size,by simp [World.shape?,hg],by omega⟩,fun j x hx=>hc j (byte x) (by simp [hx])⟩,fun k=>?_⟩
  show (some gb=some k)↔k=gb
  exact ⟨fun q=>(Option.some.inj q).symm,fun q=>by rw [q]⟩
theorem z_ut (w:World) (b g:Nat) (p:Value) (l:List UInt8) (c:Nat) (X:Fact) (hX:X.own=true) (hD: ∀k,X.D k↔k=g) (hp: ∀w,X.p w->fzP g l w) (hne:l≠[]) (hlc:l.length<=c) (hcm:c<=maxLen) (hm:Mem w [bkF b z_ah [p,.slice (some ⟨g,0,none⟩) l.length c],X]):
  Con Tryz.prog z_aC #[selfV b] w [bkF b z_ah [p,.slice (some ⟨g,0,none⟩) l.length c],X] fun v Fs=>v= .string ⟨l.toArray⟩/\Fs=[bkF b z_ah [p,.slice (some ⟨g,0,none⟩) l.length c],fzF g l]:=by
 have gd:=z_bA w (Un [bkF b z_ah [p,.slice (some ⟨g,0,none⟩) l.length c],X])
 have hl0:l.length≠0:=by simpa using hne
 refine z_ac (cx:=z_a1 w (Un [bkF b z_ah [p,.slice (some ⟨g,0,none⟩) l.length c],X])) gd z_cb rfl rfl (β:=Va.z) [.c (.v (selfV b))] 0 [] _ rfl rfl (hm.sat0 rfl (fun f hf _ k hk=>⟨f,hf,hk⟩)) ?_
 refine z_aj gd z_bI (by kernel_rfl) [] [bkF b z_ah [p,.slice (some ⟨g,0,none⟩) l.length c]] (Sub.of (List.nil_sublist _) (List.sublist_append_left [_] [_])) ?_
 have hcell: ∀(cx:Cx) (n:Nat) (β:Va) (w':World),Sat cx β n [] [bkF b z_ah [p,.slice (some ⟨g,0,none⟩) l.length c]] w'->w'.cell? ⟨b,1,none⟩=some (.slice (some ⟨g,0,none⟩) l.length c):=fun cx n β w' hs=>by
  have hb:w'.heap[b]?=some (.cells #[p,.slice (some ⟨g,0,none⟩) l.length c] z_ah (0,0)):=hs.get 0 rfl
  rw [cell_of_row w' b 1 _ _ _ hb];rfl
 refine ⟨.slice (some ⟨g,0,none⟩) l.length c,hcell _ _,?_⟩
 refine ⟨.slice (some ⟨g,0,none⟩) l.length c,hcell _ _,?_⟩
 refine ⟨[],_,.c (.v (.pointer (some ⟨g,0,none⟩))),fun β w' ty hs=>⟨w',?_,hs⟩,trivial,Sub.of (List.nil_sublist _) (List.sublist_append_left [_] [_]),?_⟩
 ·have:=Lib.run_unsafeSliceData_row (P:=Tryz.prog) w' #[z_al] ty ⟨g,0,none⟩ l.length c (by omega)
  simp only [builtin,Sem.run_bind]
  erw [this]
  rfl
 refine ⟨[],[bkF b z_ah [p,.slice (some ⟨g,0,none⟩) l.length c],fzF g l],.c (.v (.string ⟨l.toArray⟩)),fun β w' ty hs=>⟨w'.freeze ⟨g,0,none⟩ l.length,?_,?_⟩,trivial,Sub.of (List.nil_sublist _) (List.sublist_append_left [_] [_]),?_⟩
 ·obtain ⟨⟨cs,hsh,hle⟩,hcs⟩:=hp w' (hs.get 1 rfl)
  have:=Lib.run_unsafeString_row (P:=Tryz.prog) w' z_ie 3 ty z_ab z_rR cellsU8 g cs hsh l hne hle (by rw [maxLen_eq] at hcm;omega) hcs
  simp only [builtin,Sem.run_bind]
  erw [this]
  rfl
 ·have hq:=hp w' (hs.get 1 rfl)
  have hlt:=hs.flt X (List.mem_of_getElem? (i:=1) rfl) g ((hD g).2 rfl)
  refine (hs.swap [1] ⟨hX,trivial⟩ (Fs:=[fzF g l]) (Chg.mono (z_it _ _ _) (fun i _ q=>⟨_,List.mem_singleton.2 rfl,?_⟩)) ⟨fun f hf=>?_,fun f hf k hk=>?_,List.pairwise_singleton _ _⟩ (fun f hf=>?_)).perm [1,0]
  ·obtain rfl:i=g:=q
   exact (hD _).2 rfl
  ·obtain rfl:=List.mem_singleton.1 hf
   obtain ⟨⟨cs,h1,h2⟩,h3⟩:=hq
   exact ⟨⟨cs,by rw [z_p9];exact h1,h2⟩,fun j x hj=>by rw [z_ne];exact h3 j x hj⟩
  ·obtain rfl:=List.mem_singleton.1 hf
   obtain rfl:k=g:=hk
   exact Nat.lt_of_lt_of_le hlt (z_it _ _ _).size
  ·obtain rfl:=List.mem_singleton.1 hf
   rintro k rfl
   exact .inl ⟨X,List.mem_singleton.2 rfl,(hD _).2 rfl⟩
 intro β w' hs
 exact hs.fin [0,1] ⟨rfl,rfl⟩
theorem z_uC (w:World) (b:Nat) (p:Value) (A:Option Addr) (l:List UInt8) (c:Nat) (hne:l≠[]) (hm:Mem w (bldF b p A l c)):
  Con Tryz.prog z_aC #[selfV b] w (bldF b p A l c) fun v Fs=>v= .string ⟨l.toArray⟩/\ ∃g,A=some ⟨g,0,none⟩/\l.length<=c/\c<=maxLen/\Fs=[bkF b z_ah [p,.slice (some ⟨g,0,none⟩) l.length c],fzF g l]:=by
 obtain ⟨g,rfl,h1,h2,_,hD⟩:=z_tm hne (hm.fact (browF z_ab A l c) (List.mem_cons_of_mem _ List.mem_cons_self))
 refine (z_ut w b g p l c _ rfl hD (fun w q=>?_) hne h1 h2 hm).mono fun v Fs h=>⟨h.1,g,rfl,h1,h2,h.2⟩
 obtain ⟨g',q1,_,_,q2,_⟩:=z_tm hne q
 obtain rfl:g=g':=by injection q1 with q;injection q
 exact q2
theorem z_tq (w:World) (b g:Nat) (p:Value) (l:List UInt8) (c:Nat) (hne:l≠[]) (hlc:l.length<=c) (hcm:c<=maxLen) (hm:Mem w [bkF b z_ah [p,.slice (some ⟨g,0,none⟩) l.length c],fzF g l]):
  Con Tryz.prog z_aC #[selfV b] w [bkF b z_ah [p,.slice (some ⟨g,0,none⟩) l.length c],fzF g l] fun v Fs=>v= .string ⟨l.toArray⟩/\Fs=[bkF b z_ah [p,.slice (some ⟨g,0,none⟩) l.length c],fzF g l]:=
 z_ut w b g p l c _ rfl (fun _=>Iff.rfl) (fun _ q=>q) hne hlc hcm hm
theorem z_lA (w:World) (b:Nat) (p:Value) (A:Option Addr) (l:List UInt8) (c:Nat) (x:List UInt8) (hp:p= .pointer none\/p=selfV b) (hl:l.length<=100000000) (hx:x.length<=100000000) (hm:Mem w (bldF b p A l c)):
  Con Tryz.prog z_bc #[selfV b,.string (mkS x)] w (bldF b p A l c) fun v Fs=>v= .tuple #[.int .i64 (x.length:Int),.nilIface]/\ ∃A' c',Fs=bldF b (selfV b) A' (l++x) c':=by
 have g:=z_cu w (Un (bldF b p A l c))
 refine z_ac (cx:=z_a6 w (Un (bldF b p A l c))) g z_ds rfl rfl (β:=Va.z) [.c (.v (selfV b)),.c (.v (.string (mkS x)))] 0 [] _ rfl rfl (hm.sat0 rfl (fun f hf _ k hk=>⟨f,hf,hk⟩)) ?_
 refine z_aa [0] (fun β w' hs=>z_nb w' b p _ hp (hs.get 0 rfl)) ?_
 rintro v Fs ⟨rfl,rfl⟩
 refine ⟨.slice A l.length c,fun β w' hs=>by
  have hb:w'.heap[b]?=some (.cells #[selfV b,.slice A l.length c] z_ah (0,0)):=hs.get 0 rfl
  show w'.cell? ⟨b,1,none⟩=_
  rw [cell_of_row w' b 1 _ _ _ hb];rfl,?_⟩
 refine ⟨1,l.length,x.length,l.length+x.length,l.map byte,x.map byte,(l++x).map byte,rfl,⟨rfl,rfl,by rw [mkSo]⟩,rfl,by simp,by rw [maxLen_eq];omega,by show (l.length+x.length)*1<=_;omega,?_⟩
 intro A' c' h1 h2 h3
 refine ⟨_,fun β w' hs=>hs.bkSet 0 (o:=1) (us:=[.slice A' (l.length+x.length) c']) rfl (Nat.le_refl 2) (fun u hu=>by obtain rfl:=List.mem_singleton.1 hu;rfl),?_⟩
 intro β w' hs
 have e:(l++x).length=l.length+x.length:=by simp
 refine hs.fin [0,1] ⟨rfl,A',c',?_⟩
 show [bkF b z_ah [selfV b,.slice A' (l.length+x.length) c'],rowF z_ab 1 (.slice A' (l.length+x.length) c') (l.length+x.length) ((l++x).map byte)]=_
 rw [<-e]
 rfl
def decimS (u:Nat):ByteArray:=⟨(Lib.decDigits u).toArray⟩
theorem z_vm (w:World) (u:Nat) (hu:u<100):Pu Tryz.prog z_fF #[.int .i64 (u:Int)] w (.string (decimS u)):=by
 refine pu_of (Calls.mono (Tryz.internal_strconv_small u hu w) ?_)
 rintro e w' ⟨rfl,rfl⟩
 exact ⟨_,rfl,rfl,Chg.refl _ _⟩
theorem z_wM (w:World) (u:Nat) (hu:u<100):Pu Tryz.prog z_aJ #[.int .u64 (u:Int),.int .i64 10] w (.string (decimS u)):=by
 obtain ⟨x,hx⟩: ∃x:Int,(u:Int)=x:=⟨_,rfl⟩
 rw [hx]
 refine z_ac (cx:=z_a5 w (Un [])) (z_cv w (Un [])) z_du rfl rfl (β:=Va.z) [.c (.v (.int .u64 x)),.c (.v (.int .i64 10))] 0 [] [] rfl rfl (Sat.start rfl) ?_
 refine BIf.dec (fun _=>?_) (fun h=>absurd (show x<100 by omega) h)
 refine ⟨x,by rw [wrap_i64 (by omega) (by omega)],?_⟩
 refine z_ae (fun β w' hs=>by rw [<-hx];exact z_vm w' u hu) ?_
 intro β w' hs
 exact hs.fin [] ⟨rfl,rfl⟩
theorem z_yi (w:World) (u:Nat) (hu:u<100):Pu Tryz.prog z_bN #[.int .u64 (u:Int),.int .i64 10] w (.string (decimS u)):=by
 refine z_ac (cx:=z_bu w (Un [])) (z_cp w (Un [])) z_dX rfl rfl (β:=Va.z) [.c (.v (.int .u64 (u:Int))),.c (.v (.int .i64 10))] 0 [] [] rfl rfl (Sat.start rfl) ?_
 refine z_ae (fun β w' hs=>z_wM w' u hu) ?_
 intro β w' hs
 exact hs.fin [] ⟨rfl,rfl⟩
def digD:ByteArray:=⟨#[48,49,50,51,52,53,54,55,56,57]⟩
theorem z_wS: ∀d:_root_.Fin 10,digD.extract d.1 (d.1+1)=⟨#[UInt8.ofNat (48+d.1)]⟩:=by decide+kernel
theorem z_lB {n:Nat} (h:n<10):Lib.decDigits n=[UInt8.ofNat (48+n)]:=by rw [Lib.decDigits,dif_pos h]
theorem z_rz {n:Nat} (h: ¬n<10):Lib.decDigits n=Lib.decDigits (n/10)++[UInt8.ofNat (48+n%10)]:=by rw [Lib.decDigits,dif_neg h]
theorem z_rx: ∀k n:Nat,n<10^(k+1)->(Lib.decDigits n).length<=k+1
 | 0,n,h=>by rw [z_lB (by simpa using h)];exact Nat.le_refl _
 | k+1,n,h=>by
  by_cases hn:n<10
  ·rw [z_lB hn];show 1<=_;omega
  ·rw [z_rz hn,List.length_append]
   have:=z_rx k (n/10) (by rw [Nat.div_lt_iff_lt_mul (by decide)];rw [Nat.pow_succ] at h;exact h)
   show _+1<=_
   omega
theorem z_ll {n:Nat} (h:n<18446744073709551616):(decimS n).size<=20:=z_rx 19 n (Nat.lt_trans h (by decide))
structure DecJ where
 n:Nat
 s:ByteArray
theorem dec_c (w:World) (N:Nat) (hN:N<18446744073709551616):Pu Tryz.prog z_fe #[.int .u64 (N:Int)] w (.string (decimS N)):=by
 have g:=z_hx w (Un [])
 have hml:=maxLen_eq
 obtain ⟨x0,hx0⟩: ∃x0:Int,(N:Int)=x0:=⟨_,rfl⟩
 rw [hx0]
 refine z_ac (cx:=z_en w (Un [])) g z_kF rfl rfl (β:=Va.z) [.c (.v (.int .u64 x0))] 0 [] [] rfl rfl (Sat.start rfl) ?_
 rw [<-hx0]
 refine z_ai (ι:=DecJ) 0 (fun j=>[(0,.c (.v (.int .u64 (j.n:Int)))),(3,.c (.v (.string j.s)))]) (fun _=>[]) (fun _=>[])
  (fun j=>j.n<18446744073709551616/\Lib.decDigits j.n++j.s.data.toList=Lib.decDigits N) (fun j=>j.n) ⟨N,⟨#[]⟩⟩ ⟨hN,by simp⟩ (Ent.same ⟨rfl,rfl,trivial⟩ rfl) g ?_
 rintro ⟨n,s⟩ ⟨hn,hd⟩
 simp only at hn hd
 have hsz:s.size<=20:=by
  have h1:=z_ll hN
  have h2:(decimS N).size=(Lib.decDigits N).length:=rfl
  rw [h2,<-hd,List.length_append] at h1
  have h3:s.size=s.data.toList.length:=rfl
  omega
 have hd10:n%10<10:=Nat.mod_lt _ (by decide)
 refine ⟨by decide,((n%10:Nat):Int),Int.ofNat_tmod _ _,?_⟩
 refine ⟨by decide,((n%10:Nat):Int),Int.ofNat_tmod _ _,?_⟩
 refine ⟨((n%10+1:Nat):Int),by rw [z_aT];omega,?_⟩
 refine ⟨n%10+1,n%10,rfl,rfl,by show n%10+1<=10;omega,by omega,?_⟩
 have hex:=z_wS ⟨n%10,hd10⟩
 have hex2:(⟨#[48,49,50,51,52,53,54,55,56,57]⟩:ByteArray).extract (n%10) (n%10+1)=⟨#[UInt8.ofNat (48+n%10)]⟩:=hex
 rw [hex2]
 refine ⟨by show 1+s.size<=maxLen;omega,?_⟩
 refine ⟨by decide,((n/10:Nat):Int),by show IntKind.u64.wrap ((n:Int).tdiv 10)=_;rw [z_aT,Int.tdiv_eq_ediv_of_nonneg (by omega)];omega,?_⟩
 refine BIf.dec (fun h0=>?_) (fun h0=>?_)
 ·have h00:((n/10:Nat):Int)=0:=h0
  intro β w' hs
  refine hs.fin [] ⟨?_,rfl⟩
  have h10:n<10:=by omega
  rw [Nat.mod_eq_of_lt h10]
  have e:(⟨#[UInt8.ofNat (48+n)]⟩++s:ByteArray)=decimS N:=by
   apply ByteArray.ext
   apply Array.ext'
   have e1:(decimS N).data.toList=Lib.decDigits N:=rfl
   rw [e1,<-hd,z_lB h10,ByteArray.data_append]
   simp
  rw [e]
  rfl
 ·have h00: ¬((n/10:Nat):Int)=0:=h0
  refine ⟨⟨n/10,⟨#[UInt8.ofNat (48+n%10)]⟩++s⟩,⟨by show n/10<_;omega,?_⟩,by show n/10<n;omega,Ent.same ⟨rfl,rfl,trivial⟩ rfl⟩
  show Lib.decDigits (n/10)++(⟨#[UInt8.ofNat (48+n%10)]⟩++s:ByteArray).data.toList=_
  rw [<-hd,z_rz (n:=n) (by omega),ByteArray.data_append]
  simp
def sumL (b:List UInt8):List UInt8:=[115,117,109,32]++hexB (Sha.sum b)++[10]
theorem z_cY (b:List UInt8):(sumL b).length=69:=by
 simp [sumL,z_fg]
 rfl
theorem z_fM (w:World) (s:List UInt8) (hs:s.length<=1000000) (h1:(oddF 2).p w) (h0:(firstF 0).p w):Pu Tryz.prog z_ox #[.string (mkS s)] w (.string (mkS (sumL s))):=by
 have g:=z_ph w (Un [])
 have hml:=maxLen_eq
 refine z_ac (cx:=z_mP w (Un [])) g z_sv rfl rfl (β:=Va.z) [.c (.v (.string (mkS s)))] 0 [] [oldF w] rfl rfl (z_ay rfl) ?_
 intro b c hc1 hc2 b2
 refine z_aa [] (fun β w' hs'=>by
  have e:=z_yo w' (some ⟨b2,0,none⟩) (some ⟨b,0,none⟩) 1 c s (z_an (hs'.get 0 rfl)) (by have q:=hs'.get 1 rfl;simp only [mkSo] at q;exact q) (by omega) (Rd.old h1 (hs'.get 2 rfl)) (Rd.old h0 (hs'.get 2 rfl))
  exact e) ?_
 rintro v Fs ⟨A3,c3,rfl,h3,h4,rfl⟩
 refine z_ae (v:= .string ⟨(hexB (Sha.sum s)).toArray⟩) (fun β w' hs'=>by
  have e:=hex_c w' A3 (Sha.sum s) c3 (z_an (hs'.get 0 rfl)) (fun q=>by have:=congrArg List.length q;exact absurd (show (32:Nat)=0 from this) (by decide)) (by show 32<=_;omega)
  exact e) ?_
 have hx:(hexB (Sha.sum s)).length=64:=by rw [z_fg];rfl
 refine ⟨by show 4+(hexB (Sha.sum s)).length<=maxLen;omega,?_⟩
 refine ⟨by show (mkS [115,117,109,32]++mkS (hexB (Sha.sum s))).size+1<=maxLen;rw [z_aq];show ([115,117,109,32]++hexB (Sha.sum s)).length+1<=_;rw [List.length_append,hx];show 4+64+1<=_;omega,?_⟩
 intro β w' hs'
 refine (hs'.keepB (List.nil_sublist _)).fin [] ⟨?_,rfl⟩
 show Value.string (mkS [115,117,109,32]++mkS (hexB (Sha.sum s))++mkS [10])=_
 rw [z_aq,z_aq]
 rfl
theorem z_na (w:World) (s:List UInt8) (hs:s.length<=1000000) (h1:(oddF 1).p w):Pu Tryz.prog z_dq #[.string (mkS s)] w (.string (mkS (s++sumL s))):=by
 have g:=z_fJ w (Un [])
 have hml:=maxLen_eq
 refine z_ac (cx:=z_cF w (Un [])) g z_if rfl rfl (β:=Va.z) [.c (.v (.string (mkS s)))] 0 [] [oldF w] rfl rfl (z_ay rfl) ?_
 refine ⟨by show s.length+4<=maxLen;omega,?_⟩
 intro b c hc1 hc2
 refine z_aa [] (fun β w' hs'=>by
  have e:=z_yy w' (some ⟨b,0,none⟩) s c (by have q:=hs'.get 0 rfl;simp only [mkSo] at q;exact q) (Rd.old h1 (hs'.get 1 rfl)) (by omega)
  exact e) ?_
 rintro v Fs ⟨A3,c3,rfl,h3,h4,rfl⟩
 refine z_ae (v:= .string (mkS (hexB (Sha.sum s)))) (fun β w' hs'=>by
  have e:=z_wt w' A3 (Sha.sum s) c3 (z_an (hs'.get 0 rfl)) (by show 32<=_;omega)
  exact e) ?_
 have hx:(hexB (Sha.sum s)).length=64:=by rw [z_fg];rfl
 refine ⟨by show (mkS s++mkS [115,117,109,32]).size+(hexB (Sha.sum s)).length<=maxLen;rw [z_aq];show (s++[115,117,109,32]).length+_<=_;rw [List.length_append,hx];show s.length+4+64<=_;omega,?_⟩
 refine ⟨by show (mkS s++mkS [115,117,109,32]++mkS (hexB (Sha.sum s))).size+1<=maxLen;rw [z_aq,z_aq];show (s++[115,117,109,32]++hexB (Sha.sum s)).length+1<=_;rw [List.length_append,List.length_append,hx];show s.length+4+64+1<=_;omega,?_⟩
 intro β w' hs'
 refine (hs'.keepB (List.nil_sublist _)).fin [] ⟨?_,rfl⟩
 show Value.string (mkS s++mkS [115,117,109,32]++mkS (hexB (Sha.sum s))++mkS [10])=_
 rw [z_aq,z_aq,z_aq]
 simp only [sumL,List.append_assoc]
theorem z_qi (w:World) (u:Nat) (hu:u<100):Pu Tryz.prog z_d8 #[.int .u64 (u:Int)] w (.string (decimS u)):=by
 have g:=z_j6 w (Un [])
 refine z_ac (cx:=z_jw w (Un [])) g z_oh rfl rfl (β:=Va.z) [.c (.v (.int .u64 (u:Int)))] 0 [] [] rfl rfl (Sat.start rfl) ?_
 refine z_ae (v:= .string (decimS u)) (fun β w' hs=>z_yi w' u hu) ?_
 intro β w' hs
 exact hs.fin [] ⟨rfl,rfl⟩
def isIf:Option TypeDesc->Bool
 | some (.interface _)=>true
 | _=>false
theorem z_rQ {P:Program} {t:TypeId} (ht:isIf (P.underlying t)=true) (w:World):(Op.equalIn Op.maxDepth t .nilIface .nilIface).run P w= .ok true w:=by
 obtain ⟨ms,hm⟩: ∃ms,P.underlying t=some (.interface ms):=by
  unfold isIf at ht
  split at ht
  ·rename_i ms h;exact ⟨ms,h⟩
  ·cases ht
 rw [show Op.maxDepth=9999+1 from rfl]
 unfold Op.equalIn
 simp [run_underlying hm]
theorem z_tx {P:Program} {t:TypeId} (ht:isIf (P.underlying t)=true) (x:Operand) (w:World):(binSem .neq t x (.const .nilIface) .nilIface .nilIface).run P w= .ok (.bool false) w:=by
 simp [binSem,eqGuard,binOp,Op.equal,z_rQ ht]
theorem z_tv {P:Program} {t:TypeId} (ht:isIf (P.underlying t)=true) (x:Operand) (w:World):(binSem .eql t x (.const .nilIface) .nilIface .nilIface).run P w= .ok (.bool true) w:=by
 simp [binSem,eqGuard,binOp,Op.equal,z_rQ ht]
theorem z_x9:decimS 0=mkS [48]:=by decide+kernel
theorem z_wb (w:World) (t:ByteArray) (u:Nat) (ht:t.size<=1000000) (h:Lib.parseUintB 64 t.data.toList= .ok u):Pu Tryz.prog z_bk #[.string t,.int .i64 10,.int .i64 64] w (.tuple #[.int .u64 (u:Int),.nilIface]):=by
 refine pu_of (Calls.mono (Tryz.internal_strconv_ParseUint_10_at64 t (by omega) w) ?_)
 rintro e w' ⟨rfl,hw⟩
 refine ⟨_,rfl,by rw [h];rfl,?_⟩
 rcases hw with rfl | rfl
 ·exact Chg.refl _ _
 ·exact ⟨rfl,rfl,rfl,by rw [Lib.bytesWorld_size];omega,fun k hk _=>Lib.bytesWorld_at_old w _ t k hk⟩
theorem z_vw (w:World) (t:ByteArray) (u:Nat) (ht:t.size<=1000000) (h:Lib.parseUintB 64 t.data.toList= .ok u):Pu Tryz.prog z_b2 #[.string t,.int .i64 10,.int .i64 64] w (.tuple #[.int .u64 (u:Int),.nilIface]):=by
 have g:=z_cz w (Un [])
 refine z_ac (cx:=z_bO w (Un [])) g z_eA rfl rfl (β:=Va.z) [.c (.v (.string t)),.c (.v (.int .i64 10)),.c (.v (.int .i64 64))] 0 [] [] rfl rfl (Sat.start rfl) ?_
 refine z_ae (v:= .tuple #[.int .u64 (u:Int),.nilIface]) (fun β w' hs=>z_wb w' t u ht h) ?_
 refine ⟨false,fun w=>z_tx (by kernel_rfl) _ _,?_⟩
 intro β w' hs
 exact hs.fin [] ⟨rfl,rfl⟩
theorem z_tJ (w:World):Pu Tryz.prog z_gH #[.string (mkS [48])] w (.tuple #[.int .u64 0,.bool true]):=by
 have g:=z_gT w (Un [])
 refine z_ac (cx:=z_fn w (Un [])) g z_kn rfl rfl (β:=Va.z) [.c (.v (.string (mkS [48])))] 0 [] [] rfl rfl (Sat.start rfl) ?_
 refine z_ae (v:= .tuple #[.int .u64 ((0:Nat):Int),.nilIface]) (fun β w' hs=>z_vw w' (mkS [48]) 0 (by decide) (by decide)) ?_
 refine ⟨true,fun w=>z_tv (by kernel_rfl) _ _,?_⟩
 refine z_ae (v:= .string (mkS [48])) (fun β w' hs=>by
  have h:=z_qi w' 0 (by decide)
  rw [z_x9] at h
  exact h) ?_
 intro β w' hs
 exact hs.fin [] ⟨rfl,rfl⟩
end Go.Proofs.YtloeaiafphkjnaaGreatDoor.Sx
namespace Go.Proofs.YtloeaiafphkjnaaGreatDoor.Sx
open Go
section
variable {cx:Cx} {n:Nat} {H:List Bk} {F:List Fact} {env:Env}
theorem z_vt {c1 c2:Code} {Q:Exit->KT} (h:Tri cx c1 (andThen (fun n env H F=>Tri cx c2 Q n env H F) Q) n env H F):Tri cx (.seq c1 c2) Q n env H F:=by
 refine ⟨fun β a w hi=>wpIn_seq (wpIn_mono (h.run β a w hi) fun e a w hq=>?_)⟩
 cases e with
 | normal=>
  obtain ⟨β',n',env',H',F',h',hq'⟩:=hq
  exact hq'.run β' a w h'
 | exit i=>exact hq
 | goto l=>exact hq
 | ret=>exact hq
 | panic c=>exact hq
 | outgrown=>exact hq
end
end Go.Proofs.YtloeaiafphkjnaaGreatDoor.Sx
namespace Go.Proofs.YtloeaiafphkjnaaGreatDoor.Sx
open Go
def Reads:List Fact->Prop
 | []=>True
 | f::r=>f.own=false/\Reads r
theorem Reads.mem: ∀ {l:List Fact},Reads l-> ∀f∈l,f.own=false
 | f::r,h,g,hg=>by
  rcases List.mem_cons.1 hg with rfl | hg
  ·exact h.1
  ·exact h.2.mem g hg
section
variable {cx:Cx} {w:World}
theorem z_wz {Gs Rs:List Fact} (hm:Mem w (Gs++Rs)) (hR:Reads Rs) (hW:cx.W0=w) (hS:cx.S=Un Gs) (hbs:cx.bs=[]) (hr:cx.rnd=none) (hpn:cx.pn=[]):Sat cx Va.z 0 [] (Gs++Rs) w:=
 hm.sat0 hW (by rw [hS];exact ownIn hR.mem) hbs rfl rfl hr hpn
theorem z_eM {f:FuncId} {fn:Func} {c:Code} {Gs:List Fact} {R:Value->List Fact->Prop} (g:Good cx) (hf:cx.P.funcs[f]?=some fn) (svs:List SV) (Rs:List Fact) (hm:Mem w (Gs++Rs))
  (hw:cwp cx c (fnPost cx fn.results.toList (Fin w Gs R)) 0 (pairs 0 svs) [] (Gs++Rs)) (hR:Reads Rs:=by first | exact trivial | exact ⟨rfl,trivial⟩ | exact ⟨rfl,rfl,trivial⟩ | exact ⟨rfl,rfl,rfl,trivial⟩ | exact ⟨rfl,rfl,rfl,rfl,trivial⟩ | exact ⟨rfl,rfl,rfl,rfl,rfl,trivial⟩)
  (hb:fn.body=some c:=by rfl) (hN:fn.ntmps=cx.N:=by rfl) (hlen:Nat.ble svs.length cx.N=true:=by rfl) (hltB:allLt 0 svs=true:=by rfl) (hW:cx.W0=w:=by rfl) (hS:cx.S=Un Gs:=by rfl) (hbs:cx.bs=[]:=by rfl) (hr:cx.rnd=none:=by rfl) (hpn:cx.pn=[]:=by rfl):
  Con cx.P f (svs.map (SV.val Va.z)).toArray w Gs R:=
 z_ac g hf hb hN svs 0 [] (Gs++Rs) hlen hltB (z_wz hm hR hW hS hbs hr hpn) hw hr rfl hpn
theorem z_lp {f:FuncId} {fn:Func} {c:Code} {Gs:List Fact} {R:Value->List Fact->Prop} (g:Good cx) (hf:cx.P.funcs[f]?=some fn) (svs:List SV) (Rs:List Fact) (hm:Mem w (Gs++Rs))
  (hw:Tri cx c (fnPost cx fn.results.toList (Fin w Gs R)) 0 (pairs 0 svs) [] (Gs++Rs)) (hR:Reads Rs:=by first | exact trivial | exact ⟨rfl,trivial⟩ | exact ⟨rfl,rfl,trivial⟩ | exact ⟨rfl,rfl,rfl,trivial⟩ | exact ⟨rfl,rfl,rfl,rfl,trivial⟩ | exact ⟨rfl,rfl,rfl,rfl,rfl,trivial⟩)
  (hb:fn.body=some c:=by rfl) (hN:fn.ntmps=cx.N:=by rfl) (hlen:Nat.ble svs.length cx.N=true:=by rfl) (hltB:allLt 0 svs=true:=by rfl) (hW:cx.W0=w:=by rfl) (hS:cx.S=Un Gs:=by rfl) (hbs:cx.bs=[]:=by rfl) (hr:cx.rnd=none:=by rfl) (hpn:cx.pn=[]:=by rfl):
  Con cx.P f (svs.map (SV.val Va.z)).toArray w Gs R:=
 z_d7 g hf hb hN svs 0 [] (Gs++Rs) hlen hltB (z_wz hm hR hW hS hbs hr hpn) hw hr rfl hpn
end
end Go.Proofs.YtloeaiafphkjnaaGreatDoor.Sx
namespace Go.Proofs.YtloeaiafphkjnaaGreatDoor.Sx
open Go
attribute [local irreducible] Calls
def errF (g:Nat):Fact where
 own:=false
 D:=fun k=>k=g
 p:=fun w=> ∃ev,w.cell? ⟨g,0,none⟩=some ev/\(ev= .nilIface\/ ∃te pe,ev= .iface te pe)
 st:=fun w w' hs ⟨ev,h,h2⟩=>⟨ev,by rw [<-h];exact World.cell?_of_block (hs _ rfl),h2⟩
theorem z_lY {w w':World} (h:RowKit.Below w.heap.size w w'):Chg None_ w w':=⟨h.os,h.tape,h.output,h.size,fun k hk _=>h.block k hk⟩
theorem z_t8 {P:Program} {t:TypeId} (ht:isIf (P.underlying t)=true) (te:TypeId) (pv:Value) (w:World):(Op.equalIn Op.maxDepth t (.iface te pv) .nilIface).run P w= .ok false w:=by
 obtain ⟨ms,hm⟩: ∃ms,P.underlying t=some (.interface ms):=by
  unfold isIf at ht
  split at ht
  ·rename_i ms h;exact ⟨ms,h⟩
  ·cases ht
 rw [show Op.maxDepth=9999+1 from rfl]
 unfold Op.equalIn
 simp [run_underlying hm]
theorem z_wl {P:Program} {t:TypeId} (ht:isIf (P.underlying t)=true) (x:Operand) (te:TypeId) (pv:Value) (w:World):(binSem .neq t x (.const .nilIface) (.iface te pv) .nilIface).run P w= .ok (.bool true) w:=by
 simp [binSem,eqGuard,binOp,Op.equal,z_t8 ht]
theorem z_yc {P:Program} {t:TypeId} (ht:isIf (P.underlying t)=true) (x:Operand) (te:TypeId) (pv:Value) (w:World):(binSem .eql t x (.const .nilIface) (.iface te pv) .nilIface).run P w= .ok (.bool false) w:=by
 simp [binSem,eqGuard,binOp,Op.equal,z_t8 ht]
theorem z_uV (w:World) (fn s:ByteArray) (hs:s.size<=1000000) (he:(errF 5).p w):Con Tryz.prog z_fR #[.string fn,.string s,.int .i64 10,.int .i64 64,.iface 237 (.int .i64 2)] w [] fun v Fs=>(∃te pv,v= .iface te pv)/\Fs=[]:=by
 obtain ⟨ev,h1,h2⟩:=he
 refine z_bp (Calls.mono (Tryz.strconv_toError_syntax fn s 10 64 ev w (by omega) h1 h2) ?_)
 rintro e w' ⟨N,rfl,_,_,hb⟩
 exact ⟨_,rfl,[],⟨⟨_,_,rfl⟩,rfl⟩,by rw [Un.nil];exact z_lY hb,Mem.none _,trivial,fun _ h=>by cases h⟩
theorem z_wf (w:World) (fn s:ByteArray) (hs:s.size<=1000000) (he:(errF 6).p w):Con Tryz.prog z_fR #[.string fn,.string s,.int .i64 10,.int .i64 64,.iface 237 (.int .i64 1)] w [] fun v Fs=>(∃te pv,v= .iface te pv)/\Fs=[]:=by
 obtain ⟨ev,h1,h2⟩:=he
 refine z_bp (Calls.mono (Tryz.strconv_toError_range fn s 10 64 ev w (by omega) h1 h2) ?_)
 rintro e w' ⟨N,rfl,_,_,hb⟩
 exact ⟨_,rfl,[],⟨⟨_,_,rfl⟩,rfl⟩,by rw [Un.nil];exact z_lY hb,Mem.none _,trivial,fun _ h=>by cases h⟩
theorem z_mF (w:World) (t:ByteArray) (ht:t.size<=1000000):Pu Tryz.prog z_bk #[.string t,.int .i64 10,.int .i64 64] w (Lib.uintTupleM 237 18446744073709551615 (Lib.parseUintB 64 t.data.toList)):=by
 refine pu_of (Calls.mono (Tryz.internal_strconv_ParseUint_10_at64 t (by omega) w) ?_)
 rintro e w' ⟨rfl,hw⟩
 refine ⟨_,rfl,rfl,?_⟩
 rcases hw with rfl | rfl
 ·exact Chg.refl _ _
 ·exact ⟨rfl,rfl,rfl,by rw [Lib.bytesWorld_size];omega,fun k hk _=>Lib.bytesWorld_at_old w _ t k hk⟩
def noNum (v:Value):Prop:= ∃(n:Nat) (te:TypeId) (pv:Value),v= .tuple #[.int .u64 (n:Int),.iface te pv]
theorem z_uv (w:World) (t:ByteArray) (ht:t.size<=1000000) (hm:Mem w [errF 5,errF 6]):Con Tryz.prog z_b2 #[.string t,.int .i64 10,.int .i64 64] w [] fun v Fs=>
  ((∃u,Lib.parseUintB 64 t.data.toList= .ok u/\v= .tuple #[.int .u64 (u:Int),.nilIface])\/((∀u,Lib.parseUintB 64 t.data.toList≠ .ok u)/\noNum v))/\Fs=[]:=by
 have g:=z_cz w (Un [])
 refine z_eM (cx:=z_bO w (Un [])) g z_eA [.c (.v (.string t)),.c (.v (.int .i64 10)),.c (.v (.int .i64 64))] [errF 5,errF 6] hm ?_
 obtain ⟨r,hr⟩: ∃r,Lib.parseUintB 64 t.data.toList=r:=⟨_,rfl⟩
 rcases r with u | _ | _
 ·refine z_ae (v:= .tuple #[.int .u64 (u:Int),.nilIface]) (fun β w' hs=>by
   have h:=z_mF w' t ht
   rw [hr] at h
   exact h) ?_
  refine ⟨false,fun w=>z_tx (by kernel_rfl) _ _,?_⟩
  intro β w' hs
  exact (hs.fin [] ⟨.inl ⟨u,hr,rfl⟩,rfl⟩)
 ·refine z_ae (v:= .tuple #[.int .u64 0,.iface 237 (.int .i64 2)]) (fun β w' hs=>by
   have h:=z_mF w' t ht
   rw [hr] at h
   exact h) ?_
  refine ⟨true,fun w=>z_wl (by kernel_rfl) _ _ _ _,?_⟩
  refine z_aa [] (fun β w' hs=>z_uV w' _ t ht (hs.get 0 rfl)) ?_
  rintro v Fs ⟨⟨te,pv,rfl⟩,rfl⟩
  intro β w' hs
  exact hs.fin [] ⟨.inr ⟨(fun u h=>(by rw [hr] at h;cases h)),0,te,pv,rfl⟩,rfl⟩
 ·refine z_ae (v:= .tuple #[.int .u64 18446744073709551615,.iface 237 (.int .i64 1)]) (fun β w' hs=>by
   have h:=z_mF w' t ht
   rw [hr] at h
   exact h) ?_
  refine ⟨true,fun w=>z_wl (by kernel_rfl) _ _ _ _,?_⟩
  refine z_aa [] (fun β w' hs=>z_wf w' _ t ht (hs.get 1 rfl)) ?_
  rintro v Fs ⟨⟨te,pv,rfl⟩,rfl⟩
  intro β w' hs
  exact hs.fin [] ⟨.inr ⟨(fun u h=>(by rw [hr] at h;cases h)),18446744073709551615,te,pv,rfl⟩,rfl⟩
def numOk (t:ByteArray) (u:Nat):Prop:=Lib.parseUintB 64 t.data.toList= .ok u/\decimS u=t
theorem z_nv (w:World) (t:ByteArray) (Q:Fact) (hQ:Q.own=false) (ht:t.size<=1000000) (hdec: ∀(w:World) (u:Nat),Q.p w->u<18446744073709551616->Pu Tryz.prog z_d8 #[.int .u64 (u:Int)] w (.string (decimS u)))
  (hm:Mem w [errF 5,errF 6,Q]):Con Tryz.prog z_gH #[.string t] w [] fun v Fs=>(∃(n:Nat) (b:Bool),v= .tuple #[.int .u64 (n:Int),.bool b]/\((b=true/\numOk t n)\/(b=false/\ ∀u,¬numOk t u)))/\Fs=[]:=by
 have g:=z_gT w (Un [])
 refine z_eM (cx:=z_fn w (Un [])) g z_kn [.c (.v (.string t))] [errF 5,errF 6,Q] hm ?_ ⟨rfl,rfl,hQ,trivial⟩
 refine z_aa [] (fun β w' hs=>z_uv w' t ht (hs.mem.take (js:=[0,1]) rfl)) ?_
 rintro v Fs ⟨⟨u,hu,rfl⟩ | ⟨hu,n,te,pv,rfl⟩,rfl⟩
 ·refine ⟨true,fun w=>z_tv (by kernel_rfl) _ _,?_⟩
  have hb:=Lib.parseUintB_le hu
  refine z_ae (v:= .string (decimS u)) (fun β w' hs=>hdec w' u (hs.get 2 rfl) (by omega)) ?_
  intro β w' hs
  refine hs.fin [] ⟨⟨u,decide (decimS u=t),rfl,?_⟩,rfl⟩
  by_cases h:decimS u=t
  ·exact .inl ⟨by simp [h],hu,h⟩
  ·refine .inr ⟨by simp [h],fun u' hu'=>h ?_⟩
   have:=hu.symm.trans hu'.1
   injection this with this
   rw [this]
   exact hu'.2
 ·refine ⟨false,fun w=>z_yc (by kernel_rfl) _ _ _ _,?_⟩
  intro β w' hs
  exact hs.fin [] ⟨⟨n,false,rfl,.inr ⟨rfl,fun u h=>hu u h.1⟩⟩,rfl⟩
theorem z_rM: ∀(l:List UInt8) (a k:Nat),a<10^k->k+l.length<=18->l.all isD=true->Lib.parseUintM (2^64 - 1) a l= .ok (l.foldl (fun n c=>10*n+(c.toNat - 48)) a)
 | [],_,_,_,_,_=>rfl
 | c::r,a,k,ha,hl,h=>by
  simp only [List.all_cons,Bool.and_eq_true] at h
  have hc:48<=c.toNat/\c.toNat<=57:=by simpa [isD] using h.1
  simp only [List.length_cons] at hl
  have hk:(10:Nat)^k<=10^17:=Nat.pow_le_pow_right (by decide) (by omega)
  have h17:(10:Nat)^17=100000000000000000:=by decide
  rw [h17] at hk
  unfold Lib.parseUintM
  rw [if_pos hc,if_neg (by omega),if_neg (by omega),z_rM r _ (k+1) (by rw [Nat.pow_succ];omega) (by omega) h.2]
  rw [List.foldl_cons,Nat.mul_comm a 10]
theorem z_oM: ∀(n u:Nat),u<=n->(Lib.decDigits u).all isD=true/\valD (Lib.decDigits u)=u/\Lib.decDigits u≠[]/\((Lib.decDigits u).length=1\/(Lib.decDigits u).head?≠some 48)
 | n,u,hn=>by
  unfold Lib.decDigits
  by_cases h:u<10
  ·rw [dif_pos h]
   have ht:(UInt8.ofNat (48+u)).toNat=48+u:=by rw [UInt8.toNat_ofNat'];omega
   refine ⟨?_,?_,by simp,.inl rfl⟩
   ·simp only [List.all_cons,List.all_nil,Bool.and_true,isD]
    exact decide_eq_true (by omega)
   ·show 10*0+((UInt8.ofNat (48+u)).toNat - 48)=u
    omega
  ·rw [dif_neg h]
   cases n with
   | zero=>omega
   | succ n=>
    obtain ⟨h1,h2,h3,h4⟩:=z_oM n (u/10) (by omega)
    have ht:(UInt8.ofNat (48+u%10)).toNat=48+u%10:=by rw [UInt8.toNat_ofNat'];omega
    refine ⟨?_,?_,by simp,?_⟩
    ·rw [List.all_append,h1]
     simp only [List.all_cons,List.all_nil,Bool.and_true,Bool.true_and,isD]
     exact decide_eq_true (by omega)
    ·rw [z_m6,h2];omega
    ·right
     have hh: ∀x:List UInt8,(Lib.decDigits (u/10)++x).head?=(Lib.decDigits (u/10)).head?:=fun x=>by
      cases e:Lib.decDigits (u/10) with
      | nil=>exact absurd e h3
      | cons a t=>rfl
     rw [hh]
     rcases h4 with h4 | h4
     ·intro q
      obtain ⟨c,hc⟩:=List.length_eq_one_iff.1 h4
      rw [hc] at q h2
      have hq:c=48:=Option.some.inj q
      subst hq
      have:valD [48]=0:=rfl
      omega
     ·exact h4
theorem z_t6: ∀(n:Nat) (l:List UInt8),l.length=n->l.all isD=true->l≠[]->(l.length=1\/l.head?≠some 48)->Lib.decDigits (valD l)=l
 | n,l,hn,hd,hne,hh=>by
  obtain ⟨r,c,e⟩: ∃r c,l=r++[c]:=⟨l.dropLast,l.getLast hne,(List.dropLast_concat_getLast hne).symm⟩
  subst e
  rw [List.all_append] at hd
  simp only [List.all_cons,List.all_nil,Bool.and_true,Bool.and_eq_true] at hd
  have hc:48<=c.toNat/\c.toNat<=57:=by simpa [isD] using hd.2
  have hcu:UInt8.ofNat (48+(c.toNat - 48))=c:=by
   rw [show 48+(c.toNat - 48)=c.toNat by omega]
   simp
  rw [z_m6]
  cases r with
  | nil=>
   unfold Lib.decDigits
   rw [dif_pos (by show 10*0+_<10;omega)]
   show [UInt8.ofNat (48+(10*0+(c.toNat - 48)))]=[c]
   rw [Nat.mul_zero,Nat.zero_add,hcu]
  | cons a t=>
   have ha:a≠48:=by
    rcases hh with q | q
    ·simp at q
    ·intro e;exact q (by rw [e];rfl)
   cases n with
   | zero=>simp at hn
   | succ n=>
    have ih:=z_t6 n (a::t) (by simp at hn ⊢;omega) hd.1 (by simp) (.inr (fun q=>ha (Option.some.inj q)))
    have hpos:1<=valD (a::t):=by
     by_cases h0:valD (a::t)=0
     ·rw [h0] at ih
      have:Lib.decDigits 0=[48]:=by decide+kernel
      rw [this] at ih
      injection ih with q _
      exact absurd q.symm ha
     ·omega
    unfold Lib.decDigits
    rw [dif_neg (by omega),show (10*valD (a::t)+(c.toNat - 48))/10=valD (a::t) by omega,ih,show (10*valD (a::t)+(c.toNat - 48))%10=c.toNat - 48 by omega,hcu]
theorem z_n7: ∀(k u:Nat),u<10^(k+1)->(Lib.decDigits u).length<=k+1
 | 0,u,h=>by
  unfold Lib.decDigits
  rw [dif_pos (by simpa using h)]
  exact Nat.le_refl _
 | k+1,u,h=>by
  unfold Lib.decDigits
  by_cases h10:u<10
  ·rw [dif_pos h10];simp
  ·rw [dif_neg h10,List.length_append]
   have:=z_n7 k (u/10) (by rw [Nat.pow_succ] at h;omega)
   show _+1<=_
   omega
theorem z_vg {s:List UInt8} {u:Nat} (h:rnum s=some u):numOk (mkS s) u:=by
 unfold rnum at h
 split at h
 ·rename_i q
  obtain ⟨h1,h2,h3,h4⟩:=q
  obtain rfl:=Option.some.inj h
  refine ⟨?_,?_⟩
  ·rw [mkSo]
   unfold Lib.parseUintB
   rw [if_neg h3,z_rM s 0 0 (by decide) (by omega) h1]
   rfl
  ·show (⟨(Lib.decDigits (valD s)).toArray⟩:ByteArray)=mkS s
   rw [z_t6 _ s rfl h1 h3 h4]
   rfl
 ·cases h
theorem z_vM {s:List UInt8} {u:Nat} (h:numOk (mkS s) u) (hu:u<10^18):rnum s=some u:=by
 have e:Lib.decDigits u=s:=mkS1 (show mkS (Lib.decDigits u)=mkS s from h.2)
 obtain ⟨h1,h2,h3,h4⟩:=z_oM u u (Nat.le_refl _)
 have hl:=z_n7 17 u hu
 rw [e] at h1 h2 h3 h4 hl
 unfold rnum
 rw [if_pos ⟨h1,hl,h3,h4⟩,h2]
def jn (d:UInt8):List (List UInt8)->List UInt8
 | []=>[]
 | a::r=>match r with
  | []=>a
  | _::_=>a++d::jn d r
theorem z_om (d:UInt8) (a b:List UInt8) (r:List (List UInt8)):jn d (a::b::r)=a++d::jn d (b::r):=rfl
theorem z_qd (d:UInt8): ∀L:List (List UInt8),Lib.join L [d]=jn d L
 | []=>rfl
 | [a]=>Lib.join_one a [d]
 | a::b::r=>by
  have ih:=z_qd d (b::r)
  rw [z_om,<-ih,Lib.join_cons,Lib.join_cons]
  simp [Lib.joinTail]
theorem z_tP (d:UInt8): ∀L:List (List UInt8),L≠[]->(∀x∈L,d∉x)->splL d (jn d L)=L
 | [],h,_=>absurd rfl h
 | [a],_,h=>z_bn (h a (by simp))
 | a::b::r,_,h=>by
  rw [z_om,z_jp _ (h a (by simp)),z_tP d (b::r) (by simp) (fun x hx=>h x (List.mem_cons_of_mem _ hx))]
theorem z_qn {d e:UInt8} (hde:e≠d): ∀L:List (List UInt8),(∀x∈L,e∉x)->e∉jn d L
 | [],_=>by simp [jn]
 | [a],h=>h a (by simp)
 | a::b::r,h=>by
  rw [z_om]
  have ih:=z_qn hde (b::r) (fun x hx=>h x (List.mem_cons_of_mem _ hx))
  have ha:=h a (by simp)
  intro q
  rcases List.mem_append.1 q with q | q
  ·exact ha q
  ·rcases List.mem_cons.1 q with q | q
   ·exact hde q
   ·exact ih q
def catL (L:List (List UInt8)):List UInt8:=L.flatMap (· ++[10])
theorem z_bX (a:List UInt8) (L:List (List UInt8)):catL (a::L)=a++10::catL L:=by simp [catL]
theorem z_iy (a b:List (List UInt8)):catL (a++b)=catL a++catL b:=by simp [catL]
theorem z_qY: ∀(L:List (List UInt8)) (r:List UInt8),(∀x∈L,(10:UInt8)∉x)->lnL (catL L++r)=L++lnL r
 | [],r,_=>rfl
 | a::L,r,h=>by
  rw [z_bX,List.append_assoc,List.cons_append,z_sM _ (h a (by simp)),z_qY L r (fun x hx=>h x (List.mem_cons_of_mem _ hx)),List.cons_append]
theorem z_tr: ∀(n:Nat) (b:List UInt8),b.length<=n->(b=[]\/b.getLast?=some 10)->catL (lnL b)=b/\ ∀x∈lnL b,(10:UInt8)∉x
 | n,b,hn,hb=>by
  by_cases h0:b=[]
  ·subst h0;exact ⟨rfl,fun x h=>by cases h⟩
  have hl:b.getLast?=some 10:=hb.resolve_left h0
  have hm:(10:UInt8)∈b:=List.mem_of_getLast? hl
  have hs:=z_ip hm
  have hlen:=congrArg List.length hs
  simp only [List.length_append,List.length_cons] at hlen
  cases n with
  | zero=>exact absurd (List.length_eq_zero_iff.1 (Nat.le_zero.1 hn)) h0
  | succ n=>
   have ih:=z_tr n (hdB 10 b) (by omega) (by
    by_cases hq:hdB 10 b=[]
    ·exact .inl hq
    ·right
     rw [hs,List.getLast?_append,List.getLast?_cons] at hl
     cases hk:(hdB 10 b).getLast? with
     | none=>exact absurd (List.getLast?_eq_none_iff.1 hk) hq
     | some y=>rw [hk] at hl;simpa using hl)
   rw [z_q4 h0,z_bX,ih.1]
   refine ⟨hs.symm,fun x hx=>?_⟩
   rcases List.mem_cons.1 hx with rfl | hx
   ·exact z_kv 10 b
   ·exact ih.2 x hx
def lastW:List UInt8:=[108,97,115,116]
def tenW:List UInt8:=[116,101,110,97,110,116]
def userW:List UInt8:=[117,115,101,114]
def onW:List UInt8:=[111,110]
def offW:List UInt8:=[111,102,102]
def rolB (l:List ByteArray):List UInt8:=if l=[] then [45] else jn 44 (l.map fun r=>r.data.toList)
def stW (b:Bool):List UInt8:=if b=true then offW else onW
def wdsU (c:ACrd):List (List UInt8):=[userW,hexB c.user.data.toList,Lib.decDigits c.gen,stW c.revoked,Lib.decDigits c.sec.iter.toNat,encS false c.sec.salt,encS false c.sec.stored,encS false c.sec.server,encS false c.sec.ha1,rolB c.roles]
def lnU (c:ACrd):List UInt8:=jn 32 (wdsU c)
def lnT (t:ByteArray):List UInt8:=tenW++32::t.data.toList
def lnN (n:Nat):List UInt8:=lastW++32::Lib.decDigits n
def bodyA (X:ASto):List (List UInt8):=lnN X.last::(sortK (X.ts.map (·.1))).flatMap fun t=>lnT t::(usL ((aten X.ts t).getD [])).map lnU
def bodyR (Y:RA):List (List UInt8):=lnN Y.last::Y.ts.flatMap fun t=>lnT t::(inTA Y.cs t).map lnU
theorem z_yL {X:ASto} {Y:RA} (h:Jn X Y) (t:ByteArray):usL ((aten X.ts t).getD [])=inTA Y.cs t:=by
 cases ht:aten X.ts t with
 | none=>
  have:inTA Y.cs t=[]:=by
   unfold inTA
   refine List.filter_eq_nil_iff.2 fun c hc q=>?_
   obtain ⟨us,h1,_⟩:=h.mem hc
   rw [of_decide_eq_true q,ht] at h1
   cases h1
  rw [this]
  exact List.perm_nil.1 (z_kq (us:=[]) List.nodup_nil)
 | some us=>
  show usL us=_
  obtain ⟨A,B,e,_⟩:=z_ej ht
  have hp:(t,us)∈X.ts:=by rw [e];simp
  have hw:=h.tw _ hp
  refine List.Perm.eq_of_pairwise (le:=fun a b=>tlt a.user b.user) (fun _ _ _ _ q1 q2=>absurd q2 (z_kb q1)) (z_uw hw.nd) ?_ ?_
  ·have hp2:(inTA Y.cs t).Pairwise kl:=h.csr.sublist List.filter_sublist
   refine List.Pairwise.imp_of_mem (fun {a b} ha hb q=>?_) hp2
   have h1:a.tenant=t:=of_decide_eq_true (List.mem_filter.1 ha).2
   have h2:b.tenant=t:=of_decide_eq_true (List.mem_filter.1 hb).2
   rcases q with q | q
   ·rw [h1,h2] at q;exact absurd q (z_bd _)
   ·exact q.2
  ·refine (z_kq hw.nd).trans ?_
   have hn:=h.nd
   rw [e,List.map_append,List.map_cons,List.nodup_append,List.nodup_cons] at hn
   obtain ⟨n1,⟨n2,n3⟩,n4⟩:=hn
   have e2:(X.ts.flatMap (·.2)).filter (fun c=>decide (c.tenant=t))=us:=by
    have out: ∀ps:ATs,(∀p∈ps,p∈X.ts/\p.1≠t)->(ps.flatMap (·.2)).filter (fun c=>decide (c.tenant=t))=[]:=fun ps hps=>List.filter_eq_nil_iff.2 fun c hc q=>by
     obtain ⟨p,hp,hcp⟩:=List.mem_flatMap.1 hc
     exact (hps p hp).2 (((h.tw p (hps p hp).1).cs c hcp).t.symm.trans (of_decide_eq_true q))
    have inn:us.filter (fun c=>decide (c.tenant=t))=us:=List.filter_eq_self.2 fun c hc=>decide_eq_true (hw.cs c hc).t
    rw [e,List.flatMap_append,List.flatMap_cons,List.filter_append,List.filter_append,inn,out A,out B]
    ·simp
    ·exact fun p hp=>⟨by rw [e];simp [hp],fun q=>n2 (q▸List.mem_map.2 ⟨p,hp,rfl⟩)⟩
    ·exact fun p hp=>⟨by rw [e];simp [hp],fun q=>n4 _ (List.mem_map.2 ⟨p,hp,rfl⟩) t List.mem_cons_self q⟩
   have:=(h.csp.filter (fun c=>decide (c.tenant=t))).symm
   rw [e2] at this
   exact this
theorem Jn.body {X:ASto} {Y:RA} (h:Jn X Y):bodyA X=bodyR Y:=by
 unfold bodyA bodyR
 rw [h.names,h.last]
 congr 1
 have:(fun t=>lnT t::(usL ((aten X.ts t).getD [])).map lnU)=fun t=>lnT t::(inTA Y.cs t).map lnU:=funext fun t=>by rw [z_yL h]
 rw [this]
theorem z_ps (d:UInt8) (hd:isD d=false/\ ¬(97<=d.toNat/\d.toNat<=102)): ∀l:List UInt8,d∉hexB l:=by
 have key: ∀k:Nat,k<16->dgs.getD k 0≠d:=by
  intro k hk e
  have h: ∀k:Nat,k<16->isD (dgs.getD k 0)=true\/(97<=(dgs.getD k 0).toNat/\(dgs.getD k 0).toNat<=102):=by decide
  rcases h k hk with q | q
  ·rw [e,hd.1] at q;cases q
  ·rw [e] at q;exact hd.2 q
 intro l
 induction l with
 | nil=>simp [hexB]
 | cons x r ih=>
  have hx:=x.toNat_lt
  show d∉dgs.getD (x.toNat/16) 0::dgs.getD (x.toNat%16) 0::hexB r
  simp only [List.mem_cons,not_or]
  exact ⟨fun q=>key _ (by omega) q.symm,fun q=>key _ (by omega) q.symm,ih⟩
theorem z_kC (d:UInt8) (hd:isD d=false) (u:Nat):d∉Lib.decDigits u:=fun h=>by
 have:=List.all_eq_true.1 (z_oM u u (Nat.le_refl _)).1 d h
 rw [hd] at this
 cases this
theorem z_ms (d:UInt8) (hd:runC d=false) (he:d≠61) (p:List UInt8):d∉encS false p:=by
 intro h
 rcases List.mem_append.1 h with h | h
 ·have h1:runC d=true:=z_u5 false p d h
  rw [hd] at h1
  cases h1
 ·exact he (List.eq_of_mem_replicate h)
theorem z_iw (d:UInt8) (hd:okc d=false) {t:List UInt8} (h:plainF t=true):d∉t:=by
 unfold plainF at h
 rw [Bool.and_eq_true] at h
 intro q
 have:=List.all_eq_true.1 h.1 d q
 rw [hd] at this
 cases this
theorem z_vd (d:UInt8) (hd:okc d=false) (h44:d≠44) (h45:d≠45) {l:List ByteArray} (h:allPl l=true):d∉rolB l:=by
 unfold rolB
 split
 ·simpa using h45
 ·refine z_qn h44 _ fun x hx=>?_
  obtain ⟨r,hr,rfl⟩:=List.mem_map.1 hx
  exact z_iw d hd (List.all_eq_true.1 h r hr)
theorem z_ru (d:UInt8) (hd:d=32\/d=10) {c:ACrd} (h:allPl c.roles=true): ∀x∈wdsU c,d∉x:=by
 intro x hx
 simp only [wdsU,List.mem_cons,List.not_mem_nil,or_false] at hx
 have hst:d∉stW c.revoked:=by
  unfold stW
  rcases hd with rfl | rfl<;>split<;>decide
 rcases hx with rfl | rfl | rfl | rfl | rfl | rfl | rfl | rfl | rfl | rfl
 ·rcases hd with rfl | rfl<;>decide
 ·exact z_ps d (by rcases hd with rfl | rfl<;>decide) _
 ·exact z_kC d (by rcases hd with rfl | rfl<;>decide) _
 ·exact hst
 ·exact z_kC d (by rcases hd with rfl | rfl<;>decide) _
 ·exact z_ms d (by rcases hd with rfl | rfl<;>decide) (by rcases hd with rfl | rfl<;>decide) _
 ·exact z_ms d (by rcases hd with rfl | rfl<;>decide) (by rcases hd with rfl | rfl<;>decide) _
 ·exact z_ms d (by rcases hd with rfl | rfl<;>decide) (by rcases hd with rfl | rfl<;>decide) _
 ·exact z_ms d (by rcases hd with rfl | rfl<;>decide) (by rcases hd with rfl | rfl<;>decide) _
 ·exact z_vd d (by rcases hd with rfl | rfl<;>decide) (by rcases hd with rfl | rfl<;>decide) (by rcases hd with rfl | rfl<;>decide) h
theorem z_sU {c:ACrd} (h:allPl c.roles=true):splL 32 (lnU c)=wdsU c:=z_tP 32 _ (by simp [wdsU]) (z_ru 32 (.inl rfl) h)
theorem z_uJ {c:ACrd} (h:allPl c.roles=true):(10:UInt8)∉lnU c:=z_qn (by decide) _ (z_ru 10 (.inr rfl) h)
theorem z_uP {t:ByteArray} (h:plainF t.data.toList=true):(10:UInt8)∉lnT t:=by
 unfold lnT
 have:=z_iw 10 (by decide) h
 intro q
 rcases List.mem_append.1 q with q | q
 ·exact absurd q (by decide)
 ·rcases List.mem_cons.1 q with q | q
  ·exact absurd q (by decide)
  ·exact this q
theorem z_qX {t:ByteArray} (h:plainF t.data.toList=true):splL 32 (lnT t)=[tenW,t.data.toList]:=by
 unfold lnT
 rw [z_jp _ (by decide),z_bn (z_iw 32 (by decide) h)]
theorem z_vX (n:Nat):(10:UInt8)∉lnN n:=by
 unfold lnN
 have:=z_kC 10 (by decide) n
 intro q
 rcases List.mem_append.1 q with q | q
 ·exact absurd q (by decide)
 ·rcases List.mem_cons.1 q with q | q
  ·exact absurd q (by decide)
  ·exact this q
theorem z_sJ (n:Nat):splL 32 (lnN n)=[lastW,Lib.decDigits n]:=by
 unfold lnN
 rw [z_jp _ (by decide),z_bn (z_kC 32 (by decide) n)]
def triL:List UInt8->List (List UInt8)
 | a::b::c::r=>[a,b,c]::triL r
 | []=>[]
 | l=>[l]
theorem z_sP: ∀(p:List UInt8),∀q∈triL p,1<=q.length/\q.length<=3
 | [],q,h=>by cases h
 | [a],q,h=>by
  obtain rfl:q=[a]:=by simpa [triL] using h
  exact ⟨by simp,by simp⟩
 | [a,b],q,h=>by
  obtain rfl:q=[a,b]:=by simpa [triL] using h
  exact ⟨by simp,by simp⟩
 | a::b::c::r,q,h=>by
  rcases List.mem_cons.1 h with rfl | h
  ·exact ⟨by simp,by simp⟩
  ·exact z_sP r q h
theorem z_rO {p:List UInt8} (h:p≠[]):triL p=p.take 3::triL (p.drop 3):=by
 match p,h with
 | [a],_=>rfl
 | [a,b],_=>rfl
 | a::b::c::r,_=>rfl
def trV (p:List UInt8):Nat->Nat
 | 0=>0
 | j+1=>trV p j*256+(p.getD j 0).toNat
theorem z_wH (p:List UInt8): ∀j,trV p j<256^j
 | 0=>Nat.one_pos
 | j+1=>by
  have:=z_wH p j
  have h:=(p.getD j 0).toNat_lt
  rw [trV,Nat.pow_succ]
  omega
theorem z_xx {p:List UInt8} {j:Nat} (h:p.length<=j):trV p (j+1)=trV p j*256:=by
 rw [trV,List.getD_eq_getElem?_getD,List.getElem?_eq_none h]
 exact Nat.add_zero _
theorem z_w0: ∀ {p:List UInt8} {i:Nat},p.length<=3->1<=p.length->i<p.length+1->(encG p)[i]?=some (trV p 3/64^(3 - i)%64)
 | [x],i,_,_,h=>by
  have hx:=x.toNat_lt
  match i,h with
  | 0,_=>simp [encG,trV];omega
  | 1,_=>simp [encG,trV];omega
 | [x,y],i,_,_,h=>by
  have hx:=x.toNat_lt
  have hy:=y.toNat_lt
  match i,h with
  | 0,_=>simp [encG,trV];omega
  | 1,_=>simp [encG,trV];omega
  | 2,_=>simp [encG,trV];omega
 | [x,y,z],i,_,_,h=>by
  have hx:=x.toNat_lt
  have hy:=y.toNat_lt
  have hz:=z.toNat_lt
  match i,h with
  | 0,_=>simp [encG,trV];omega
  | 1,_=>simp [encG,trV];omega
  | 2,_=>simp [encG,trV];omega
  | 3,_=>simp [encG,trV];omega
theorem z_u9 {p:List UInt8} (h3:p.length<=3) (h1:1<=p.length):(encG p).length=p.length+1:=by
 rw [z_kM]
 omega
theorem shr64 {X i:Nat} (hi:i<=3):(X:Int).fdiv (2^min (6*(i:Int)).toNat IntKind.i64.bits)=((X/64^i:Nat):Int):=by
 rw [show (6*(i:Int)).toNat=6*i by omega,show min (6*i) IntKind.i64.bits=6*i from Nat.min_eq_left (by show _<=64;omega),show ((2:Int)^(6*i))=((64^i:Nat):Int) by rw [show (64:Nat)=2^6 from rfl,<-Nat.pow_mul];simp]
 rw [Int.fdiv_eq_ediv_of_nonneg _ (Int.natCast_nonneg _)]
 rfl
theorem cutZ {A:Option Addr} {c s:Nat}:cutA A c 0 s=A:=by
 cases A<;>simp [cutA,Addr.add]
structure Lies (A A':Option Addr) (p p':List UInt8):Prop where
 rd: ∀w,Bs w A p->Bs w A' p'
 d: ∀k,(bsF A' p').D k->(bsF A p).D k
theorem Lies.trans {A A' A'':Option Addr} {p p' p'':List UInt8} (h:Lies A A' p p') (h2:Lies A' A'' p' p''):Lies A A'' p p'':=⟨fun w q=>h2.rd w (h.rd w q),fun k q=>h.d k (h2.d k q)⟩
theorem Lies.refl (A:Option Addr) (p:List UInt8):Lies A A p p:=⟨fun _ q=>q,fun _ q=>q⟩
theorem Lies.drop {A:Option Addr} {p:List UInt8} {c n:Nat} (hc:p.length<=c) (hn:n<=p.length):Lies A (cutA A c n 1) p (p.drop n):=
 ⟨fun w q=>Bs.cutB q hc hn (Nat.le_refl _) (List.take_of_length_le (by rw [List.length_drop];exact Nat.le_refl _)),fun k hk=>cut_D (by rw [List.length_drop];omega) hk⟩
theorem Lies.take (A:Option Addr) (p:List UInt8) (n:Nat):Lies A A p (p.take n):=by
 refine ⟨fun w q=>?_,fun k hk=>?_⟩
 ·have h:=Bs.cutB (i:=0) (j:=min n p.length) q (Nat.le_refl _) (Nat.zero_le _) (Nat.min_le_right _ _) (by rw [List.drop_zero,Nat.sub_zero,<-List.take_eq_take_min])
  rwa [cutZ] at h
 ·have h:(bsF (cutA A 1 0 1) (p.take n)).D k:=by rw [cutZ];exact hk
  exact cut_D (by rw [List.length_take];omega) h
def AlphE (al:ByteArray) (url:Bool):Prop:= ∀n,n<64->al.data.toList[n]?=some (letA url n)
theorem z_wj (w:World) (al:ByteArray) (url:Bool) (hal:AlphE al url) (A:Option Addr) (p:List UInt8) (c:Nat) (h1:1<=p.length) (h3:p.length<=3) (hm:Mem w [bsF A p]):
  Con Tryz.prog z_lF #[.string al,.slice A p.length c] w [] fun v Fs=> ∃A c,v= .slice A (b64L url p).length c/\(b64L url p).length<=c/\Fs=[browF z_ab A (b64L url p) c]:=by
 have g:=z_mJ w (Un [])
 have hml:=maxLen_eq
 have hr:Bs w A p:=hm.fact (bsF A p) (by simp)
 obtain ⟨ad,hA⟩:=Bs.addr hr (by omega)
 refine z_eM (cx:=z_kK w (Un [])) g z_pA [.c (.v (.string al)),.c (.v (.slice A p.length c))] [bsF A p] hm ?_
 refine z_ai (ι:=Nat) 0 (fun j=>[(0,.c (.v (.string al))),(1,.c (.v (.slice A p.length c))),(5,.c (.v (.int .i64 (trV p j:Int)))),(9,.c (.v (.int .i64 (j:Int))))]) (fun _=>[]) (fun _=>[bsF A p]) (fun j=>j<=3) (fun j=>3 - j) (0:Nat) (Nat.zero_le _) (Ent.mk' ⟨rfl,rfl,rfl,rfl,trivial⟩ rfl (fun β w' hs=>hs)) g ?_
 intro j hj
 have hv:trV p j<16777216:=Nat.lt_of_lt_of_le (z_wH p j) (show 256^j<=256^3 from Nat.pow_le_pow_right (by decide) hj)
 refine BIf.dec (fun hlt=>?_) (fun hge=>?_)
 ·have hlt0:(j:Int)<3:=hlt
  refine ⟨by decide,_,z_xq (by omega),?_⟩
  refine BIf.dec (fun hl=>?_) (fun hl=>?_)
  ·have hl0:(j:Int)<(p.length:Int):=hl
   obtain ⟨x,hx,_⟩:=at_lt (l:=p) (k:=j) (by omega)
   have hxl:=x.toNat_lt
   have hnx:trV p (j+1)=trV p j*256+x.toNat:=by rw [trV,List.getD_eq_getElem?_getD,hx];rfl
   refine ⟨ad,j,hA,rfl,by omega,byte x,fun β w' hs=>Rd.cell1 (show Rd 1 (some ad) p.length (p.map byte) w' from hA▸hs.get 0 rfl) (by rw [List.getElem?_map,hx];rfl),?_⟩
   refine ⟨(x.toNat:Int),by rw [wrap_i64 (by omega) (by omega)],?_⟩
   refine ⟨_,z_yu (by omega) (by omega),?_⟩
   refine ⟨((j+1:Nat):Int),by rw [wrap_i64 (by omega) (by omega)];rfl,?_⟩
   exact ⟨j+1,by show j+1<=3;omega,by show 3 - (j+1)<3 - j;omega,Ent.mk' ⟨rfl,rfl,by rw [hnx];rfl,rfl,trivial⟩ rfl (fun β w' hs=>hs)⟩
  ·have hl0: ¬(j:Int)<(p.length:Int):=hl
   refine ⟨((j+1:Nat):Int),by rw [wrap_i64 (by omega) (by omega)];rfl,?_⟩
   exact ⟨j+1,by show j+1<=3;omega,by show 3 - (j+1)<3 - j;omega,Ent.mk' ⟨rfl,rfl,by rw [z_xx (by omega)];rfl,rfl,trivial⟩ rfl (fun β w' hs=>hs)⟩
 ·have hge0: ¬(j:Int)<3:=hge
  obtain rfl:j=3:=by omega
  have hl3:=z_u9 h3 h1
  have hbl:(b64L url p).length=p.length+1:=by unfold b64L;rw [List.length_map,hl3]
  refine ⟨((p.length+1:Nat):Int),by rw [wrap_i64 (by omega) (by omega)];rfl,?_⟩
  refine z_ai (ι:=Nat×Option Addr×Nat) 0 (fun i=>[(0,.c (.v (.string al))),(5,.c (.v (.int .i64 (trV p 3:Int)))),(7,.c (.v (.slice i.2.1 ((b64L url p).take i.1).length i.2.2))),(28,.c (.v (.int .i64 ((p.length+1:Nat):Int)))),(29,.c (.v (.int .i64 (i.1:Int))))]) (fun _=>[]) (fun i=>[browF z_ab i.2.1 ((b64L url p).take i.1) i.2.2])
   (fun i=>i.1<=p.length+1) (fun i=>p.length+1 - i.1) (0,none,0) (Nat.zero_le _) (Ent.mk' ⟨rfl,rfl,rfl,rfl,rfl,trivial⟩ rfl (fun β w' hs=>(hs.nilRow z_ab 1).perm [0])) g ?_
  rintro ⟨i,O,oc⟩ hi
  simp only at hi
  refine BIf.dec (fun hlt=>?_) (fun hge2=>?_)
  ·have hlt0:(i:Int)<((p.length+1:Nat):Int):=hlt
   have hi3:i<=3:=by omega
   refine ⟨((3 - i:Nat):Int),by rw [wrap_i64 (by omega) (by omega)];omega,?_⟩
   refine ⟨6*((3 - i:Nat):Int),wrap_i64 (by omega) (by omega),?_⟩
   refine ⟨by omega,_,shr64 (by omega),?_⟩
   have hq:trV p 3/64^(3 - i)<33554432:=Nat.lt_of_le_of_lt (Nat.div_le_self _ _) (by omega)
   refine ⟨_,z_qA (k:=6) hq (by decide),?_⟩
   obtain ⟨n,hn⟩: ∃n,trV p 3/64^(3 - i)%2^6=n:=⟨_,rfl⟩
   rw [hn]
   have hn6:n<64:=by rw [<-hn];exact Nat.mod_lt _ (by decide)
   have hx:(b64L url p)[i]?=some (letA url n):=by
    unfold b64L
    rw [List.getElem?_map,z_w0 h3 h1 (by omega),<-hn]
    rfl
   obtain ⟨x,hxx⟩: ∃x,letA url n=x:=⟨_,rfl⟩
   rw [hxx] at hx
   have hsn:(b64L url p).take (i+1)=(b64L url p).take i++[x]:=by rw [List.take_add_one,hx];rfl
   refine ⟨n,x,rfl,by rw [<-hxx];exact hal n hn6,?_⟩
   intro b1
   refine ⟨1,((b64L url p).take i).length,((b64L url p).take (i+1)).length,((b64L url p).take i).map byte,[byte x],((b64L url p).take (i+1)).map byte,rfl,fun β w' hs=>z_an (hs.get 0 rfl),z_ap [x],by rw [hsn,List.length_append];rfl,by rw [hsn,List.map_append];rfl,by rw [List.length_take];omega,by rw [List.length_take];show _*1<=_;omega,?_⟩
   intro A' c' _ _ _
   refine ⟨((i+1:Nat):Int),by rw [wrap_i64 (by omega) (by omega)];rfl,?_⟩
   exact ⟨(i+1,A',c'),by show i+1<=p.length+1;omega,by show p.length+1 - (i+1)<p.length+1 - i;omega,Ent.mk' ⟨rfl,rfl,rfl,rfl,rfl,trivial⟩ rfl (fun β w' hs=>hs.perm [1])⟩
  ·have hge0: ¬(i:Int)<((p.length+1:Nat):Int):=hge2
   have hfl:(b64L url p).take i=b64L url p:=List.take_of_length_le (by omega)
   rw [hfl]
   intro β w' hs
   exact hs.fin [0] ⟨O,oc,rfl,z_ir (hs.get 0 rfl),rfl⟩
theorem z_xg {b ty:Nat} {cs:List Value} {w:World} (h:(bkF b ty cs).p w) {o:Nat} {v:Value} (ho:cs[o]?=some v):w.cell? ⟨b,o,none⟩=some v:=by
 have hb:w.heap[b]?=some (.cells cs.toArray ty (0,0)):=h
 rw [cell_of_row w b o _ _ _ hb]
 simpa using ho
end Go.Proofs.YtloeaiafphkjnaaGreatDoor.Sx
