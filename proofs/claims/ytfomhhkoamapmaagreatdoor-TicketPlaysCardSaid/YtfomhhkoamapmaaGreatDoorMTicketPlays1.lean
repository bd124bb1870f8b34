/- Texts joined: Sx, SxHeld, SxMap, SxMapI, SxOps, SxRo, SxRo2, SxRo3, SxFx, SxFx2, SxApp, SxCode, SxDraw. -/
import Derived.WalkKit
import Derived.KernelRfl
import Derived.OrdersHeld
import Derived.OrdersIn
import Derived.RangeFuncNested
import Derived.RangeFuncLeaves
import Derived.MapKept
import Derived.Laws.Bits
import Derived.Laws.BytesArg
import Derived.Laws.Cells
import Derived.Maps.AppendAt
import Derived.Lib.ConvBytes
import Derived.Deep.AppendSrc
import Derived.Scope
set_option linter.unusedVariables false
set_option linter.unusedSimpArgs false
namespace Go.Proofs.YtfomhhkoamapmaaGreatDoor.Sx
open Go
structure Chg (S:Nat->Prop) (w w':World):Prop where
 os:w'.os=w.os
 tape:w'.tape=w.tape
 output:w'.output=w.output
 size:w.heap.size<=w'.heap.size
 same: ∀k,k<w.heap.size-> ¬S k->w'.heap[k]?=w.heap[k]?
def None_:Nat->Prop:=fun _=>False
theorem Chg.refl (S:Nat->Prop) (w:World):Chg S w w:=⟨rfl,rfl,rfl,Nat.le_refl _,fun _ _ _=>rfl⟩
theorem Chg.trans {S T U:Nat->Prop} {a b c:World} (h:Chg S a b) (k:Chg T b c) (hs: ∀i,i<a.heap.size->S i->U i) (ht: ∀i,i<a.heap.size->T i->U i):Chg U a c:=
 ⟨k.os.trans h.os,k.tape.trans h.tape,k.output.trans h.output,Nat.le_trans h.size k.size,fun i hi hn=>
  (k.same i (Nat.lt_of_lt_of_le hi h.size) (fun q=>hn (ht i hi q))).trans (h.same i hi (fun q=>hn (hs i hi q)))⟩
theorem Chg.mono {S T:Nat->Prop} {a b:World} (h:Chg S a b) (hs: ∀i,i<a.heap.size->S i->T i):Chg T a b:=
 ⟨h.os,h.tape,h.output,h.size,fun i hi hn=>h.same i hi (fun q=>hn (hs i hi q))⟩
structure Va where
 b:Nat->Nat
 pins:List (Nat×Obj)
 marks:List Nat
instance:CoeFun Va (fun _=>Nat->Nat):=⟨Va.b⟩
structure Agr (n:Nat) (β β':Va):Prop where
 pins:β'.pins=β.pins
 marks:β'.marks=β.marks
 at_: ∀i,i<n->β' i=β i
theorem Agr.refl (n:Nat) (β:Va):Agr n β β:=⟨rfl,rfl,fun _ _=>rfl⟩
theorem Agr.trans {n m:Nat} {a b c:Va} (h:Agr n a b) (k:Agr m b c) (hn:n<=m):Agr n a c:=
 ⟨k.pins.trans h.pins,k.marks.trans h.marks,fun i hi=>(k.at_ i (Nat.lt_of_lt_of_le hi hn)).trans (h.at_ i hi)⟩
theorem Agr.symm {n:Nat} {a b:Va} (h:Agr n a b):Agr n b a:=⟨h.pins.symm,h.marks.symm,fun i hi=>(h.at_ i hi).symm⟩
def Va.set (β:Va) (n x:Nat):Va:=⟨fun i=>if i=n then x else β i,β.pins,β.marks⟩
theorem Va.set_same (β:Va) (n x:Nat):(β.set n x) n=x:=by simp [Va.set]
theorem Va.set_other (β:Va) {n i:Nat} (x:Nat) (h:i≠n):(β.set n x) i=β i:=by simp [Va.set,h]
theorem Va.set_agr (β:Va) (n x:Nat):Agr n β (β.set n x):=⟨rfl,rfl,fun i hi=>β.set_other x (Nat.ne_of_lt hi)⟩
def Va.z:Va:=⟨fun _=>0,[],[]⟩
def Va.of (f:Nat->Nat):Va:=⟨f,[],[]⟩
inductive SL where
 | v (x:Value)
 | p (id off:Nat)
def SL.val (β:Va):SL->Value
 | .v x=>x
 | .p id off=> .pointer (some ⟨β id,off,none⟩)
def SL.lt (n:Nat):SL->Prop
 | .v _=>True
 | .p id _=>id<n
inductive SV where
 | c (x:SL)
 | agg (xs:List SL)
 | fn (f:Fn) (first caps:List SL)
def SV.val (β:Va):SV->Value
 | .c x=>x.val β
 | .agg xs=> .agg (xs.map (SL.val β)).toArray
 | .fn f first caps=> .func f (first.map (SL.val β)).toArray (caps.map (SL.val β)).toArray
def SV.lt (n:Nat):SV->Prop
 | .c x=>x.lt n
 | .agg xs=> ∀x∈xs,x.lt n
 | .fn _ first caps=>(∀x∈first,x.lt n)/\ ∀x∈caps,x.lt n
theorem SL.val_congr {β β':Va} {n:Nat} (h:Agr n β β') {x:SL} (hx:x.lt n):x.val β'=x.val β:=by
 cases x with
 | v x=>rfl
 | p id off=>simp only [SL.val,h.at_ id hx]
theorem SL.map_congr {β β':Va} {n:Nat} (h:Agr n β β') {xs:List SL} (hx: ∀x∈xs,x.lt n):xs.map (SL.val β')=xs.map (SL.val β):=
 List.map_congr_left fun x hm=>SL.val_congr h (hx x hm)
theorem SV.val_congr {β β':Va} {n:Nat} (h:Agr n β β') {x:SV} (hx:x.lt n):x.val β'=x.val β:=by
 cases x with
 | c x=>exact SL.val_congr h hx
 | agg xs=>simp only [SV.val,SL.map_congr h hx]
 | fn f a b=>simp only [SV.val,SL.map_congr h hx.1,SL.map_congr h hx.2]
theorem SL.lt_mono {n m:Nat} (h:n<=m) {x:SL} (hx:x.lt n):x.lt m:=by
 cases x with
 | v x=>trivial
 | p id off=>exact Nat.lt_of_lt_of_le hx h
theorem SV.lt_mono {n m:Nat} (h:n<=m) {x:SV} (hx:x.lt n):x.lt m:=by
 cases x with
 | c x=>exact SL.lt_mono h hx
 | agg xs=>exact fun x hm=>SL.lt_mono h (hx x hm)
 | fn f a b=>exact ⟨fun x hm=>SL.lt_mono h (hx.1 x hm),fun x hm=>SL.lt_mono h (hx.2 x hm)⟩
abbrev Env:=List (Nat×SV)
def get:Env->Nat->Option SV
 | [],_=>none
 | (t,s)::r,u=>match Nat.beq t u with | true=>some s | false=>get r u
theorem z_dW (r:Env) (t:Nat) (s:SV):get ((t,s)::r) t=some s:=by
 simp [get,Nat.beq_refl]
theorem z_cq (r:Env) {t u:Nat} (s:SV) (h:t≠u):get ((t,s)::r) u=get r u:=by
 have:Nat.beq t u=false:=by
  cases hb:Nat.beq t u with
  | false=>rfl
  | true=>exact absurd (Nat.eq_of_beq_eq_true hb) h
 simp [get,this]
structure Fact where
 own:Bool
 D:Nat->Prop
 p:World->Prop
 st: ∀w w',(∀k,D k->w'.heap[k]?=w.heap[k]?)->p w->p w'
structure Bk where
 id:Nat
 ty:TypeId
 cells:List SL
inductive TD where
 | bool | string | struct | other
 | int (k:IntKind)
 | pointer (e:TypeId)
 | slice (e:TypeId)
 | array (n:Nat) (e:TypeId)
 | map (k e:TypeId)
def shapeD:TypeDesc->TD
 | .bool=> .bool
 | .string=> .string
 | .struct _=> .struct
 | .int k=> .int k
 | .pointer e=> .pointer e
 | .slice e=> .slice e
 | .array n e=> .array n e
 | .map k e=> .map k e
 | _=> .other
def plainD:TypeDesc->Bool
 | .bool | .string | .int _ | .pointer _ | .slice _ | .array _ _ | .map _ _=>true
 | _=>false
theorem z_q1 {d d':TypeDesc} (h:shapeD d'=shapeD d) (hp:plainD d=true):d'=d:=by
 cases d<;>first
  | (cases hp;done)
  | (cases d'<;>first
   | (cases h;done)
   | (cases h;rfl))
def aggD:TD->Bool
 | .struct | .array _ _=>true
 | _=>false
def fieldsOf (P:Program) (t:TypeId):List Field:=match P.underlying t with | some (.struct fs)=>fs.toList | _=>[]
structure TI where
 desc:TD
 agg:Bool
 size:Nat
 bytes:Nat
 zero:List Value
 fields:List (Nat×Nat)
 ftys:List Nat
def lk:List (Nat×TI)->Nat->Option TI
 | [],_=>none
 | (t,i)::r,u=>match Nat.beq t u with | true=>some i | false=>lk r u
structure TiOk (P:Program) (t:TypeId) (i:TI):Prop where
 under:(P.underlying t).map shapeD=some i.desc
 info:(P.info? t).map (fun x=>(x.zero.map (fun z=>z.cells.toList),x.size,x.bytes))=some (some i.zero,i.size,i.bytes)
 agg:i.agg=aggD i.desc
 len:i.zero.length=i.size
 fields:(fieldsOf P t).map (fun f=>(f.offset,P.info? f.type |>.map (·.size)))=i.fields.map (fun q=>(q.1,some q.2))
 ftys:(fieldsOf P t).map (·.type)=i.ftys
theorem TiOk.real {P:Program} {t:TypeId} {i:TI} (h:TiOk P t i) {d:TypeDesc} (hd:i.desc=shapeD d) (hp:plainD d=true):P.underlying t=some d:=by
 obtain ⟨d',h1,h2⟩:=Option.map_eq_some_iff.1 h.under
 rw [hd] at h2
 rw [h1,z_q1 h2 hp]
theorem TiOk.struct {P:Program} {t:TypeId} {i:TI} (h:TiOk P t i) (hd:i.desc= .struct): ∃fs,P.underlying t=some (.struct fs)/\fieldsOf P t=fs.toList:=by
 obtain ⟨d',h1,h2⟩:=Option.map_eq_some_iff.1 h.under
 rw [hd] at h2
 cases d'<;>first
  | (cases h2;done)
  | exact ⟨_,h1,by simp [fieldsOf,h1]⟩
structure Cx where
 P:Program
 W0:World
 S:Nat->Prop
 N:Nat
 tt:List (Nat×TI)
 fns:List Nat
 bs:List Nat
 rnd:Option Nat
 pn:List (Nat×Obj)
def Cx.fence (cx:Cx):Fence:=match cx.rnd with | none=>Fence.wide | some l=>Fence.wide.inRound l
theorem Cx.fence_fn (cx:Cx) (f:Nat):cx.fence.fn f:=by unfold Cx.fence;cases cx.rnd<;>trivial
theorem Cx.fence_depth (cx:Cx):cx.fence.depth=none:=by unfold Cx.fence;cases cx.rnd<;>rfl
theorem Cx.fence_round (cx:Cx):cx.fence.round=cx.rnd:=by unfold Cx.fence;cases cx.rnd<;>rfl
def memb:List Nat->Nat->Bool
 | [],_=>false
 | x::r,y=>match Nat.beq x y with | true=>true | false=>memb r y
theorem z_n7 {l:List Nat} {y:Nat} (h:memb l y=true):y∈l:=by
 induction l with
 | nil=>cases h
 | cons x r ih=>
  simp only [memb] at h
  cases hb:Nat.beq x y with
  | true=>rw [Nat.eq_of_beq_eq_true hb];exact List.mem_cons_self
  | false=>rw [hb] at h;exact List.mem_cons_of_mem _ (ih h)
def callable (P : Program) (f : Nat) : Bool := match P.funcs[f]? with | some fn => fn.body.isSome && !(fn.name == "runtime.NumGoroutine") | none => false
structure Good (cx:Cx):Prop where
 ok: ∀e∈cx.tt,TiOk cx.P e.1 e.2
 fn: ∀f∈cx.fns,callable cx.P f=true
 mixed:cx.P.follows .mixedOrders=true
theorem z_zq {l:List (Nat×TI)} {t:Nat} {i:TI} (h:lk l t=some i):(t,i)∈l:=by
 induction l with
 | nil=>cases h
 | cons e r ih=>
  obtain ⟨u,j⟩:=e
  simp only [lk] at h
  cases hb:Nat.beq u t with
  | true=>
   have:=Nat.eq_of_beq_eq_true hb
   subst this
   simp only [hb,Option.some.injEq] at h
   subst h
   exact List.mem_cons_self
  | false=>simp only [hb] at h;exact List.mem_cons_of_mem _ (ih h)
theorem Good.ti {cx:Cx} (g:Good cx) {t:Nat} {i:TI} (h:lk cx.tt t=some i):TiOk cx.P t i:=g.ok _ (z_zq h)
structure Sat (cx:Cx) (β:Va) (n:Nat) (H:List Bk) (F:List Fact) (w:World):Prop where
 chg:Chg cx.S cx.W0 w
 fix:cx.bs.length<=n/\ ∀i,i<cx.bs.length->β i=cx.bs.getD i 0
 blk: ∀b∈H,w.heap[β b.id]?=some (.cells (b.cells.map (SL.val β)).toArray b.ty (0,0))
 mine: ∀b∈H,cx.S (β b.id)\/cx.W0.heap.size<=β b.id
 inj:H.Pairwise (fun b c=>β b.id≠β c.id)
 ltb: ∀b∈H,b.id<n/\ ∀x∈b.cells,x.lt n
 fact: ∀f∈F,f.p w
 flt: ∀f∈F,∀k,f.D k->k<w.heap.size
 sepb: ∀f∈F,∀b∈H,¬f.D (β b.id)
 fown: ∀f∈F,f.own=true-> ∀k,f.D k->cx.S k\/cx.W0.heap.size<=k
 sepf:F.Pairwise (fun f g=>f.own=true\/g.own=true-> ∀k,f.D k-> ¬g.D k)
 pin: ∀p∈β.pins,w.heap[p.1]?=some p.2/\p.2.isCells=false/\ ∀f∈F,¬f.D p.1
 mrk:β.marks.Nodup/\ ∀r∈β.marks,(r,Obj.deferred (some []))∈β.pins/\cx.W0.heap.size<=r
 rnd:(∀p∈cx.pn,p∈β.pins)/\ ∀l,cx.rnd=some l->β.marks=[]/\ ∃r,(l,Obj.loop r)∈β.pins
structure Inv (cx:Cx) (β:Va) (n:Nat) (env:Env) (H:List Bk) (F:List Fact) (a:Act) (w:World):Prop where
 ag: ∀t s,get env t=some s->a.tmps[t]?=some (s.val β)
 size:a.tmps.size=cx.N
 df:a.defers=β.marks.map (fun r=> {target:= .collected r,args:= #[]})
 lte: ∀t s,get env t=some s->s.lt n
 sat:Sat cx β n H F w
abbrev KT:=Nat->Env->List Bk->List Fact->Prop
theorem Sat.lt {cx:Cx} {β:Va} {n:Nat} {H:List Bk} {F:List Fact} {w:World} (h:Sat cx β n H F w) {b:Bk} (hb:b∈H):β b.id<w.heap.size:=by
 have:=h.blk b hb
 rcases Nat.lt_or_ge (β b.id) w.heap.size with hlt | hge
 ·exact hlt
 ·rw [Array.getElem?_eq_none hge] at this;cases this
theorem Sat.drew {cx:Cx} {β:Va} {n:Nat} {H:List Bk} {F:List Fact} {w:World} (h:Sat cx β n H F w):Sat cx β n H F w.drew:=
 ⟨⟨h.chg.os,h.chg.tape,h.chg.output,h.chg.size,h.chg.same⟩,h.fix,h.blk,h.mine,h.inj,h.ltb,fun f hf=>f.st w w.drew (fun _ _=>rfl) (h.fact f hf),h.flt,h.sepb,h.fown,h.sepf,h.pin,h.mrk,h.rnd⟩
theorem Sat.pinLt {cx:Cx} {β:Va} {n:Nat} {H:List Bk} {F:List Fact} {w:World} (h:Sat cx β n H F w) {p:Nat×Obj} (hp:p∈β.pins):p.1<w.heap.size:=
 (Array.getElem?_eq_some_iff.1 (h.pin p hp).1).1
theorem Sat.pinBk {cx:Cx} {β:Va} {n:Nat} {H:List Bk} {F:List Fact} {w:World} (h:Sat cx β n H F w) {p:Nat×Obj} (hp:p∈β.pins) {b:Bk} (hb:b∈H):β b.id≠p.1:=by
 intro q
 have h1:=h.blk b hb
 have h2:=h.pin p hp
 rw [q,h2.1] at h1
 have h3:=h2.2.1
 rw [Option.some.inj h1] at h3
 cases h3
theorem Sat.new {cx:Cx} {β:Va} {n:Nat} {H:List Bk} {F:List Fact} {w:World} (h:Sat cx β n H F w) (ty:TypeId) (xs:List SL) (hx: ∀x∈xs,x.lt n):
  Sat cx (β.set n w.heap.size) (n+1) (⟨n,ty,xs⟩::H) F (w.alloc (.cells (xs.map (SL.val β)).toArray ty)):=by
 have hc:Agr n β (β.set n w.heap.size):=β.set_agr n _
 have hsame: ∀k,k<w.heap.size->(w.alloc (.cells (xs.map (SL.val β)).toArray ty)).heap[k]?=w.heap[k]?:=fun k hk=>RowKit.Below.heap_alloc _ _ _ hk
 have hnew:(w.alloc (.cells (xs.map (SL.val β)).toArray ty)).heap[w.heap.size]?=some (.cells (xs.map (SL.val β)).toArray ty (0,0)):=by
  show (w.heap.push _)[w.heap.size]?=_
  simp
 have hsz:(w.alloc (.cells (xs.map (SL.val β)).toArray ty)).heap.size=w.heap.size+1:=by simp
 have hid: ∀b∈H,(β.set n w.heap.size) b.id=β b.id:=fun b hb=>hc.at_ b.id (h.ltb b hb).1
 have hn:(β.set n w.heap.size) n=w.heap.size:=β.set_same n _
 constructor
 ·exact h.chg.trans (T:=None_) ⟨rfl,rfl,rfl,by omega,fun k hk _=>hsame k hk⟩ (fun _ _ q=>q) (fun _ _ q=>q.elim)
 ·exact ⟨Nat.le_succ_of_le h.fix.1,fun i hi=>(hc.at_ i (Nat.lt_of_lt_of_le hi h.fix.1)).trans (h.fix.2 i hi)⟩
 ·intro b hb
  rcases List.mem_cons.1 hb with rfl | hb
  ·simp only [hn,SL.map_congr hc hx];exact hnew
  ·rw [SL.map_congr hc (h.ltb b hb).2,hid b hb,hsame _ (h.lt hb)];exact h.blk b hb
 ·intro b hb
  rcases List.mem_cons.1 hb with rfl | hb
  ·simp only [hn];exact .inr h.chg.size
  ·rw [hid b hb];exact h.mine b hb
 ·refine List.pairwise_cons.2 ⟨fun b hb=>?_,?_⟩
  ·simp only [hn,hid b hb];have:=h.lt hb;omega
  ·refine List.Pairwise.imp_of_mem (fun {b c} hb hc' hne=>?_) h.inj
   rw [hid b hb,hid c hc'];exact hne
 ·intro b hb
  rcases List.mem_cons.1 hb with rfl | hb
  ·exact ⟨Nat.lt_succ_self _,fun x hm=>SL.lt_mono (Nat.le_succ _) (hx x hm)⟩
  ·exact ⟨Nat.lt_succ_of_lt (h.ltb b hb).1,fun x hm=>SL.lt_mono (Nat.le_succ _) ((h.ltb b hb).2 x hm)⟩
 ·exact fun f hf=>f.st _ _ (fun k hk=>hsame k (h.flt f hf k hk)) (h.fact f hf)
 ·intro f hf k hk;have:=h.flt f hf k hk;omega
 ·intro f hf b hb
  rcases List.mem_cons.1 hb with rfl | hb
  ·simp only [hn];intro q;have:=h.flt f hf _ q;omega
  ·rw [hid b hb];exact h.sepb f hf b hb
 ·exact h.fown
 ·exact h.sepf
 ·intro p hp
  have hp':p∈β.pins:=hp
  refine ⟨?_,(h.pin p hp').2⟩
  rw [hsame _ (h.pinLt hp')]
  exact (h.pin p hp').1
 ·exact h.mrk
 ·exact h.rnd
def cellsAt:List Bk->Nat->Option (List SL)
 | [],_=>none
 | b::r,i=>match Nat.beq b.id i with | true=>some b.cells | false=>cellsAt r i
def nth {α:Type}:List α->Nat->Option α
 | [],_=>none
 | x::_,0=>some x
 | _::r,n+1=>nth r n
theorem z_aX {α:Type}: ∀(l:List α) (n:Nat),nth l n=l[n]?
 | [],_=>by simp [nth]
 | x::r,0=>by simp [nth]
 | x::r,n+1=>by simp [nth,z_aX r n]
def takeAt {α:Type}:List α->Nat->Nat->Option (List α)
 | _,_,0=>some []
 | l,o,k+1=>match nth l o with | none=>none | some x=>match takeAt l (o+1) k with | none=>none | some r=>some (x::r)
def setCells:List Bk->Nat->(List SL->List SL)->List Bk
 | [],_,_=>[]
 | b::r,i,f=>match Nat.beq b.id i with | true=>⟨b.id,b.ty,f b.cells⟩::r | false=>b::setCells r i f
def putAt {α:Type}:List α->Nat->α->List α
 | [],_,_=>[]
 | _::r,0,y=>y::r
 | x::r,n+1,y=>x::putAt r n y
def putAll {α:Type}:List α->Nat->List α->List α
 | l,_,[]=>l
 | l,o,y::ys=>putAll (putAt l o y) (o+1) ys
theorem z_aT {α:Type}: ∀(l:List α) (n:Nat) (y:α),putAt l n y=l.set n y
 | [],_,_=>by simp [putAt]
 | x::r,0,y=>by simp [putAt]
 | x::r,n+1,y=>by simp [putAt,z_aT r n y]
theorem z_cL {α:Type}: ∀(ys l:List α) (o:Nat),(putAll l o ys).length=l.length
 | [],_,_=>rfl
 | y::ys,l,o=>by rw [putAll,z_cL ys,z_aT,List.length_set]
theorem z_nj {α γ:Type} (f:α->γ): ∀(ys l:List α) (o:Nat),(putAll l o ys).map f=putAll (l.map f) o (ys.map f)
 | [],_,_=>rfl
 | y::ys,l,o=>by rw [putAll,z_nj f ys,z_aT,List.map_set,List.map_cons,putAll,z_aT]
theorem z_hY {H:List Bk} {i:Nat} {xs:List SL} (h:cellsAt H i=some xs): ∃b∈H,b.id=i/\b.cells=xs:=by
 induction H with
 | nil=>cases h
 | cons b r ih=>
  simp only [cellsAt] at h
  cases hb:Nat.beq b.id i with
  | true=>
   simp only [hb,Option.some.injEq] at h
   exact ⟨b,List.mem_cons_self,Nat.eq_of_beq_eq_true hb,h⟩
  | false=>
   simp only [hb] at h
   obtain ⟨c,hc,h1,h2⟩:=ih h
   exact ⟨c,List.mem_cons_of_mem _ hc,h1,h2⟩
theorem Sat.cell {cx:Cx} {β:Va} {n:Nat} {H:List Bk} {F:List Fact} {w:World} (h:Sat cx β n H F w) {i:Nat} {xs:List SL} (hc:cellsAt H i=some xs) (o:Nat) {x:SL} (hx:nth xs o=some x):
  w.cell? ⟨β i,o,none⟩=some (x.val β):=by
 obtain ⟨b,hb,rfl,rfl⟩:=z_hY hc
 rw [cell_of_row w _ o _ _ _ (h.blk b hb)]
 rw [z_aX] at hx
 simp [hx]
theorem z_se (H:List Bk) (i:Nat) (f:List SL->List SL):(setCells H i f).map (·.id)=H.map (·.id):=by
 induction H with
 | nil=>rfl
 | cons b r ih=>
  simp only [setCells]
  cases hb:Nat.beq b.id i with
  | true=>simp
  | false=>simp [ih]
#print axioms Sat.new
end Go.Proofs.YtfomhhkoamapmaaGreatDoor.Sx
namespace Go.Proofs.YtfomhhkoamapmaaGreatDoor.Sx
open Go
section
variable {F:Fence} {P:Program} {ops:Array Oper} {Q:Exit->Act->World->Prop} {S:World->Prop} {md:Region.Mode}
def noDefer (ops:Array Oper):Bool:=ops.all fun o=>match o.op with | .defer _=>false | _=>true
theorem z_ko (h:noDefer ops=true) {j:Nat} {o:Oper} (hj:ops[j]?=some o): ∀c,o.op≠ .defer c:=by
 intro c hc
 unfold noDefer at h
 rw [Array.all_eq_true] at h
 obtain ⟨hl,rfl⟩:=Array.getElem?_eq_some_iff.1 hj
 have:=h j hl
 rw [hc] at this
 cases this
theorem heldOp (hF: ∀f,F.fn f) {i:Nat} {o:Oper} {v:Value} {a:Act} (hi:ops[i]?=some o) (hd: ∀c,o.op≠ .defer c) (hy:YieldsIf P ops S o v a)
  {K:Act->World->Prop} {w:World} (hS:S w) (h:K (a.put o.dst v) w):wpOpIn F 0 P ops Q i K a w:=by
 unfold wpOpIn
 simp only [hi]
 rcases hy with ⟨hw,hv⟩ | ⟨hw,rfl⟩
 ·rw [if_pos hw]
  unfold Oper.wpIn
  rw [Oper.semAt_eq _ _ _ hd,hv w hS]
  exact ⟨fun f _=>hF f,h⟩
 ·rw [if_neg (by rw [hw];decide)]
  exact ⟨fun f _=>hF f,h⟩
theorem heldPut (hF: ∀f,F.fn f) {j:Nat} {oi oj:Oper} {v:Value} (hj:ops[j]?=some oj) (hdj: ∀c,oj.op≠ .defer c) (hap:oi.apart ops oj=true)
  (hsi: ∀cs b,oi.op≠ .select cs b) (hsj: ∀cs b,oj.op≠ .select cs b)
  (hQ: ∀c a w,Q (.panic c) (a.put oi.dst v) w->Q (.panic c) a w) {K:Act->World->Prop} {a:Act} {w:World}
  (hy:YieldsIf P ops S oi v a) (h:wpOpIn F 0 P ops Q j K (a.put oi.dst v) w):
  wpOpIn F 0 P ops Q j (fun a' w'=>YieldsIf P ops S oi v a'/\K (a'.put oi.dst v) w') a w:=by
 obtain ⟨h1,h2,h3⟩:=Oper.apart_spec hap
 have keep: ∀u,YieldsIf P ops S oi v (a.put oj.dst u):=fun u=>
  hy.of_same (execOp_put oi hsi a oj.dst u h3) (wanted_put oi a oj.dst u h3)
 have fin: ∀u w',K ((a.put oi.dst v).put oj.dst u) w'->YieldsIf P ops S oi v (a.put oj.dst u)/\K ((a.put oj.dst u).put oi.dst v) w':=
  fun u w' hk=>⟨keep u,by rw [<-Act.put_comm a v u h2];exact hk⟩
 unfold wpOpIn at *
 simp only [hj] at *
 rw [wanted_put oj a oi.dst v h1] at h
 by_cases hw:Region.wanted oj (yielded ops a.tmps)=true
 ·rw [if_pos hw] at h ⊢
  unfold Oper.wpIn at *
  refine ⟨fun f _=>hF f,?_⟩
  have h:=h.2
  rw [Oper.semAt_eq _ _ _ hdj] at h ⊢
  rw [execOp_put oj hsj a oi.dst v h1] at h
  generalize (execOp a.eval oj).run P w=r at *
  cases r with
  | ok x w'=>
   cases x<;>simp only [Oper.uponIn] at h ⊢
   case value u=>exact fin u _ h
   case skip=>exact fin _ _ h
   case defer d=>
    refine ⟨(hy.of_same rfl rfl:YieldsIf P ops S oi v {a with defers:=d::a.defers}).of_same (execOp_put oi hsi _ oj.dst undef h3) (wanted_put oi _ oj.dst undef h3),?_⟩
    rw [<-Act.put_comm _ v undef h2,<-Act.put_defers]
    exact h
   case enter f args=>
    refine ⟨h.1,CallsIn.mono h.2 fun e w'' he=>?_⟩
    cases e with
    | returned u=>exact fin u _ he
    | panicked c=>exact hQ _ _ _ he
    | outgrown=>exact he
   case row row args=>exact ⟨h.1,RowsIn.mono h.2 fun u w'' he=>fin u _ he⟩
   case round l f tmps assign body=>
    refine ⟨h.1,RoundIn.mono h.2 fun e w'' he=>?_⟩
    cases e with
    | returned u=>exact fin u _ he
    | panicked c=>exact hQ _ _ _ he
    | outgrown=>exact he
  | halt x w'=>
   cases x<;>simp only [Oper.uponIn] at h ⊢
   case panic u=>exact hQ _ _ _ h
 ·rw [if_neg hw] at h ⊢
  exact ⟨fun f _=>hF f,fin _ _ h.2⟩
def anyH (F:Fence) (P:Program) (md:Region.Mode) (ops:Array Oper) (Q:Exit->Act->World->Prop) (S:World->Prop) (L:List Nat):Nat->Array Bool->Act->World->Prop
 | 0,listed,a,w=>Region.ready md ops listed=[]/\Q .normal a w
 | fuel+1,listed,a,w=>
  (Region.ready md ops listed=[]->Q .normal a w)/\
  ∀i∈Region.ready md ops listed,wpOpIn F 0 P ops Q i (fun a' w'=>(S w'\/i∈L)/\anyH F P md ops Q S L fuel (listed.setIfInBounds i true) a' w') a w
theorem z_tw {L:List Nat}: ∀(fuel:Nat) (listed:Array Bool) (a:Act) (w:World),anyH F P md ops Q S L fuel listed a w->wpAnyIn F 0 P md ops Q fuel listed a w
 | 0,_,_,_,h=>h
 | fuel+1,_,_,_,h=>⟨h.1,fun i hi=>wpOpIn_mono (fun a' w' q=>z_tw fuel _ a' w' q.2) (h.2 i hi)⟩
def lastB (md:Region.Mode) (ops:Array Oper) (L:List Nat) (i:Nat):Bool:=L.all fun k=>match ops[k]? with | some o=>o.after.any fun e=>Region.binds md e&&Nat.beq e.on i | none=>true
theorem z_t2 {L:List Nat} {i:Nat} (h:lastB md ops L i=true) {k:Nat} (hk:k∈L) {o:Oper} (ho:ops[k]?=some o): ∃e∈o.after,Region.binds md e=true/\e.on=i:=by
 unfold lastB at h
 have h:=List.all_eq_true.1 h k hk
 rw [ho] at h
 simp only at h
 rw [Array.any_eq_true'] at h
 obtain ⟨e,he,h⟩:=h
 simp only [Bool.and_eq_true] at h
 exact ⟨e,he,h.1,Nat.eq_of_beq_eq_true h.2⟩
theorem z_p3 {L:List Nat} (hF: ∀f,F.fn f) (hnd:noDefer ops=true) {i:Nat} {oi:Oper} {v:Value} (hi:ops[i]?=some oi) (hsel: ∀(j:Nat) (o:Oper) cs b,ops[j]?=some o->o.op≠ .select cs b)
  (hQ: ∀c a w,Q (.panic c) (a.put oi.dst v) w->Q (.panic c) a w):
  ∀(fuel:Nat) (listed:Array Bool) (a:Act) (w:World),
   lastB md ops L i=true->(∀j oj,ops[j]?=some oj->j≠i->listed.getD j true=false->(∀e∈oj.after,Region.binds md e=true->e.on≠i)->oi.apart ops oj=true)->
   i∈Region.ready md ops listed->YieldsIf P ops S oi v a->S w->
   anyH F P md ops Q S L fuel (listed.setIfInBounds i true) (a.put oi.dst v) w->anyH F P md ops Q S L (fuel+1) listed a w
 | 0,listed,a,w,hL,_,hr,hy,hS,H=>by
  refine ⟨fun h=>(by rw [h] at hr;cases hr),fun j hj=>?_⟩
  by_cases hji:j=i
  ·subst hji;exact heldOp hF hi (z_ko hnd hi) hy hS ⟨.inl hS,H⟩
  ·have:=ready_mono hj hji
   rw [H.1] at this
   cases this
 | fuel+1,listed,a,w,hL,hfree,hr,hy,hS,H=>by
  refine ⟨fun h=>(by rw [h] at hr;cases hr),fun j hj=>?_⟩
  by_cases hji:j=i
  ·subst hji;exact heldOp hF hi (z_ko hnd hi) hy hS ⟨.inl hS,H⟩
  ·obtain ⟨hjun,oj,hoj,hall⟩:=mem_ready.1 hj
   have hir:=(mem_ready.1 hr).1
   have hnot: ∀e∈oj.after,Region.binds md e=true->e.on≠i:=by
    intro e he hb heq
    have h1:=hall e he hb
    rw [heq] at h1
    rcases Nat.lt_or_ge i listed.size with h' | h'
    ·simp [h'] at hir h1;rw [hir] at h1;cases h1
    ·simp [Array.getElem?_eq_none h'] at h1
   refine wpOpIn_mono ?_ (heldPut hF hoj (z_ko hnd hoj) (hfree j oj hoj hji hjun hnot) (fun cs b=>hsel i oi cs b hi) (fun cs b=>hsel j oj cs b hoj) hQ hy (H.2 j (ready_mono hj hji)))
   rintro a' w' ⟨hy',hS0,hrest⟩
   have hS':S w':=hS0.resolve_right (fun q=>by
    obtain ⟨e,he,hb,heq⟩:=z_t2 hL q hoj
    exact hnot e he hb heq)
   refine ⟨.inl hS',z_p3 hF hnd hi hsel hQ fuel (listed.setIfInBounds j true) a' w' hL ?_ (ready_mono hr (Ne.symm hji)) hy' hS' (by rw [Array.setIfInBounds_comm _ _ hji];exact hrest)⟩
   intro k ok hk hki hun hno
   refine hfree k ok hk hki ?_ hno
   by_cases hjk:j=k
   ·subst hjk;exact hjun
   ·rw [getD_set_ne true hjk] at hun;exact hun
theorem z_u1 {L:List Nat} (hF: ∀f,F.fn f) (hnd:noDefer ops=true) {i:Nat} {oi:Oper} {v:Value} {fuel:Nat} {listed:Array Bool} {a:Act} {w:World} (hi:ops[i]?=some oi)
  (hs:Region.noSelect ops=true) (hf:Region.free md ops listed i=true) (hr:(Region.ready md ops listed).contains i=true) (hL:lastB md ops L i=true)
  (hQ: ∀c a w,Q (.panic c) (a.put oi.dst v) w->Q (.panic c) a w) (hy:YieldsIf P ops S oi v a) (hS:S w)
  (h:anyH F P md ops Q S L fuel (listed.setIfInBounds i true) (a.put oi.dst v) w):anyH F P md ops Q S L (fuel+1) listed a w:=
 z_p3 hF hnd hi (Region.noSelect_spec hs) hQ fuel listed a w hL (Region.free_spec hi hf) (by simpa using hr) hy hS h
theorem z_n5 {L:List Nat} {rs:List Nat} {fuel:Nat} {listed:Array Bool} {a:Act} {w:World} (hr:Region.ready md ops listed=rs) (hne:rs≠[])
  (h: ∀i∈rs,wpOpIn F 0 P ops Q i (fun a' w'=>(S w'\/i∈L)/\anyH F P md ops Q S L fuel (listed.setIfInBounds i true) a' w') a w):anyH F P md ops Q S L (fuel+1) listed a w:=
 ⟨fun h0=>absurd (hr▸h0) hne,hr▸h⟩
theorem z_v6 {L:List Nat} {listed:Array Bool} {a:Act} {w:World} (hr:Region.ready md ops listed=[]) (h:Q .normal a w):
  ∀fuel,anyH F P md ops Q S L fuel listed a w
 | 0=>⟨hr,h⟩
 | _+1=>⟨fun _=>h,by rw [hr];simp⟩
theorem z_si {L:List Nat} {id:Nat} {a:Act} {w:World} (hm:P.follows .mixedOrders=true)
  (h:anyH F P .any ops Q S L ops.size (Array.replicate ops.size false) a w.drew):(Code.region id ops true).wpIn F 0 P Q a w:=
 wpIn_region_any hm (z_tw _ _ _ _ h)
end
end Go.Proofs.YtfomhhkoamapmaaGreatDoor.Sx
namespace Go.Proofs.YtfomhhkoamapmaaGreatDoor.Sx
open Go
abbrev ML:=List (ByteArray×Value)
def mlook:ML->ByteArray->Option Value
 | [],_=>none
 | (k,v)::r,s=>if k=s then some v else mlook r s
def mput:ML->ByteArray->Value->ML
 | [],s,v=>[(s,v)]
 | (k,u)::r,s,v=>if k=s then (s,v)::r else (k,u)::mput r s v
def mdel:ML->ByteArray->ML
 | [],_=>[]
 | (k,u)::r,s=>if k=s then r else (k,u)::mdel r s
abbrev ME:=ByteArray×Value×Nat
def ME.ent (e:ME):MapEntry:=⟨.string e.1,e.2.1,e.2.2⟩
def ME.cut (e:ME):ByteArray×Value:=(e.1,e.2.1)
structure MapOk (es:List ME) (k:Nat) (l:ML):Prop where
 cut:es.map ME.cut=l
 inc:(es.map (·.2.2)).Pairwise (· < ·)
 lt: ∀e∈es,e.2.2<k
def mapP (b:Nat) (l:ML) (w:World):Prop:= ∃(es:List ME) (k:Nat),w.heap[b]?=some (.map (es.map ME.ent).toArray k)/\MapOk es k l
def mapF (b:Nat) (l:ML):Fact where
 own:=true
 D:=fun g=>g=b
 p:=mapP b l
 st:=fun w w' hs ⟨es,k,h,q⟩=>⟨es,k,by rw [hs b rfl];exact h,q⟩
def fnd (s:ByteArray):List ME->Nat->Option (Nat×Value)
 | [],_=>none
 | e::r,i=>if e.1=s then some (i,e.2.1) else fnd s r (i+1)
theorem z_oV (s:ByteArray): ∀(es:List ME) (i:Nat),Instr.findNow .string (.string s) (es.map ME.ent) i=some (fnd s es i)
 | [],i=>rfl
 | e::r,i=>by
  simp only [List.map_cons,Instr.findNow,fnd]
  have h1:Instr.sameNow .string (.string s) (ME.ent e).key=some (decide (s=e.1)):=by
   show some (s==e.1)=_
   exact congrArg some (by rw [Bool.eq_iff_iff,MapKept.bytes_beq];simp)
  rw [h1]
  by_cases h:e.1=s
  ·have h':s=e.1:=h.symm
   simp only [decide_eq_true h',if_pos h]
   rfl
  ·have h': ¬s=e.1:=fun q=>h q.symm
   simp only [decide_eq_false h',if_neg h]
   exact z_oV s r (i+1)
theorem run_findKey {P:Program} {kt:TypeId} (hk:P.underlying kt=some .string) (s:ByteArray) (es:List ME) (w:World):(Instr.findKey kt (.string s) (es.map ME.ent)).run P w= .ok (fnd s es 0) w:=by
 exact MapKept.run_findKey hk (z_oV s es 0)
theorem run_checkKey {P:Program} {kt:TypeId} (hk:P.underlying kt=some .string) (s:ByteArray) (b:Bool) (w:World):(Instr.checkKey b 10000 kt (.string s)).run P w= .ok () w:=by
 exact MapKept.run_checkKey (k:= .string s) hk trivial b 9999
theorem z_tf (s:ByteArray): ∀(es:List ME) (i:Nat),(fnd s es i).map (·.2)=mlook (es.map ME.cut) s
 | [],_=>rfl
 | e::r,i=>by
  simp only [fnd,List.map_cons,mlook,ME.cut]
  split
  ·rfl
  ·exact z_tf s r (i+1)
theorem z_s4 {s:ByteArray}: ∀ {es:List ME} {i:Nat},fnd s es i=none-> ∀v b,(es++[(s,v,b)]).map ME.cut=mput (es.map ME.cut) s v
 | [],_,_,v,b=>rfl
 | e::r,i,h,v,b=>by
  simp only [fnd] at h
  split at h
  ·cases h
  ·rename_i hne
   simp only [List.cons_append,List.map_cons,mput,ME.cut,if_neg hne]
   rw [<-z_s4 h v b]
theorem z_sD {s:ByteArray}: ∀ {es:List ME} {i:Nat} {j:Nat} {u:Value},fnd s es i=some (j,u)-> ∃(a c:List ME) (t:Nat),es=a++(s,u,t)::c/\j=i+a.length/\
  (∀v,(a++(s,v,t)::c).map ME.cut=mput (es.map ME.cut) s v)/\(a++c).map ME.cut=mdel (es.map ME.cut) s
 | [],_,_,_,h=>by cases h
 | e::r,i,j,u,h=>by
  simp only [fnd] at h
  split at h
  ·rename_i he
   simp only [Option.some.injEq,Prod.mk.injEq] at h
   obtain ⟨rfl,rfl⟩:=h
   obtain ⟨k,v0,t⟩:=e
   simp only at he
   subst he
   exact ⟨[],r,t,rfl,rfl,fun v=>by simp [mput,ME.cut],by simp [mdel,ME.cut]⟩
  ·rename_i hne
   obtain ⟨a,c,t,rfl,rfl,h1,h2⟩:=z_sD h
   refine ⟨e::a,c,t,rfl,by simp;omega,fun v=>?_,?_⟩
   ·simp only [List.cons_append,List.map_cons,mput,ME.cut,if_neg hne]
    rw [<-h1 v]
   ·simp only [List.cons_append,List.map_cons,mdel,ME.cut,if_neg hne]
    rw [<-h2]
theorem z_t9 {P:Program} {t kt et:TypeId} (ht:P.underlying t=some (.map kt et)) (hk:P.underlying kt=some .string) {w:World} {b:Nat} {l:ML} (h:mapP b l w) (s:ByteArray) (z:Value) (hz:(zeroValue et).run P w= .ok z w) (ok:Bool):
  (Instr.lookup t (.map (some b)) (.string s) ok).run P w= .ok (match ok with | true=> .tuple #[(mlook l s).getD z,.bool (mlook l s).isSome] | false=>(mlook l s).getD z) w:=by
 obtain ⟨es,k,hb,hm⟩:=h
 have hg:(getObj b).run P w= .ok (.map (es.map ME.ent).toArray k) w:=MapKept.run_getObj_map hb
 have h1:=z_tf s es 0
 rw [hm.cut] at h1
 simp only [Instr.lookup,Sem.run_bind,run_underlying ht,Result.andThen_ok,hg,run_checkKey hk,run_findKey hk,Sem.run_pure]
 cases hf:fnd s es 0 with
 | none=>
  rw [hf] at h1
  simp only [Option.map_none] at h1
  rw [<-h1]
  cases ok<;>simp [hz]
 | some q=>
  obtain ⟨j,v⟩:=q
  rw [hf] at h1
  simp only [Option.map_some] at h1
  rw [<-h1]
  cases ok<;>simp
theorem z_pC {P:Program} {t kt et:TypeId} (ht:P.underlying t=some (.map kt et)) (hk:P.underlying kt=some .string) {w:World} (s:ByteArray) (z:Value) (hz:(zeroValue et).run P w= .ok z w) (ok:Bool):
  (Instr.lookup t (.map none) (.string s) ok).run P w= .ok (match ok with | true=> .tuple #[z,.bool false] | false=>z) w:=by
 have h1:=run_findKey (P:=P) hk s [] w
 simp only [List.map_nil] at h1
 have h2:fnd s [] 0=none:=rfl
 simp only [Instr.lookup,Sem.run_bind,run_underlying ht,Result.andThen_ok,run_checkKey hk,Sem.run_pure,h1,h2,hz]
 cases ok<;>simp
theorem z_m2 {α:Type} (f:α->α) (x:α) (c:List α): ∀a:List α,(a++x::c).modify a.length f=a++f x::c
 | []=>by simp
 | y::a=>by simp [z_m2 f x c a]
theorem z_yj {P:Program} {t kt et:TypeId} (ht:P.underlying t=some (.map kt et)) (hk:P.underlying kt=some .string) {w:World} {b:Nat} {l:ML} (h:mapP b l w) (s:ByteArray) (v:Value):
  ∃o,(Instr.mapUpdate t (.map (some b)) (.string s) v).run P w= .ok () (w.putObj b o)/\mapP b (mput l s v) (w.putObj b o):=by
 obtain ⟨es,k,hb,hm⟩:=h
 have hlt:b<w.heap.size:=(Array.getElem?_eq_some_iff.1 hb).1
 have hg:(getObj b).run P w= .ok (.map (es.map ME.ent).toArray k) w:=MapKept.run_getObj_map hb
 have hput: ∀o,(w.putObj b o).heap[b]?=some o:=fun o=>World.putObj_heap_same hlt
 simp only [Instr.mapUpdate,Sem.run_bind,run_underlying ht,Result.andThen_ok,hg,run_checkKey hk,run_findKey hk,Sem.run_pure]
 cases hf:fnd s es 0 with
 | none=>
  refine ⟨.map ((es++[(s,v,k)]).map ME.ent).toArray (k+1),?_,es++[(s,v,k)],k+1,hput _,by rw [z_s4 hf v k,hm.cut],?_,?_⟩
  ·have:=MapKept.run_setObj_map (P:=P) (.map ((es++[(s,v,k)]).map ME.ent).toArray (k+1)) hb
   simpa [ME.ent,World.putObj] using this
  ·rw [List.map_append,List.pairwise_append]
   refine ⟨hm.inc,List.pairwise_singleton _ _,fun x hx y hy=>?_⟩
   obtain ⟨e,he,rfl⟩:=List.mem_map.1 hx
   simp only [List.map_cons,List.map_nil,List.mem_singleton] at hy
   subst hy
   exact hm.lt e he
  ·intro e he
   rcases List.mem_append.1 he with he | he
   ·exact Nat.lt_succ_of_lt (hm.lt e he)
   ·obtain rfl:=List.mem_singleton.1 he
    exact Nat.lt_succ_self _
 | some q=>
  obtain ⟨j,u⟩:=q
  obtain ⟨a,c,t0,rfl,hj,h1,_⟩:=z_sD hf
  rw [Nat.zero_add] at hj
  subst hj
  refine ⟨.map ((a++(s,v,t0)::c).map ME.ent).toArray k,?_,a++(s,v,t0)::c,k,hput _,by rw [h1 v,hm.cut],?_,?_⟩
  ·have hkey:((((a++(s,u,t0)::c).map ME.ent).toArray)[a.length]?).map (·.key)=some (.string s):=by simp [ME.ent]
   have hstay:(Instr.keyThatStays (.string s) (.string s)).run P w= .ok (.string s) w:=MapKept.run_keyThatStays (d:= .string) (k:= .string s) trivial
   have hmod:(((a++(s,u,t0)::c).map ME.ent).toArray).modify a.length (fun e=> {e with key:= .string s,val:=v})=((a++(s,v,t0)::c).map ME.ent).toArray:=by
    apply Array.ext'
    simp only [Array.toList_modify,List.map_append,List.map_cons]
    have:=z_m2 (fun e:MapEntry=> {e with key:= .string s,val:=v}) (ME.ent (s,u,t0)) (c.map ME.ent) (a.map ME.ent)
    rw [List.length_map] at this
    rw [this]
    rfl
   simp only [hkey,Option.getD_some,Sem.run_bind,hstay,Result.andThen_ok,hmod]
   exact MapKept.run_setObj_map _ hb
  ·have:=hm.inc
   simpa using this
  ·intro e he
   have hlt:=hm.lt
   rcases List.mem_append.1 he with he | he
   ·exact hlt e (List.mem_append_left _ he)
   ·rcases List.mem_cons.1 he with rfl | he
    ·exact hlt (s,u,t0) (by simp)
    ·exact hlt e (by simp [he])
theorem z_sa {w:World} {b:Nat} (o:Obj):Chg (· =b) w (w.putObj b o):=⟨rfl,rfl,rfl,by rw [World.putObj_size];exact Nat.le_refl _,fun k _ hk=>World.putObj_heap_other hk⟩
end Go.Proofs.YtfomhhkoamapmaaGreatDoor.Sx
namespace Go.Proofs.YtfomhhkoamapmaaGreatDoor.Sx
open Go
variable {kk:IntKind}
abbrev MLI:=List (Int×Value)
def ilook:MLI->Int->Option Value
 | [],_=>none
 | (k,v)::r,s=>if k=s then some v else ilook r s
def iput:MLI->Int->Value->MLI
 | [],s,v=>[(s,v)]
 | (k,u)::r,s,v=>if k=s then (s,v)::r else (k,u)::iput r s v
def idel:MLI->Int->MLI
 | [],_=>[]
 | (k,u)::r,s=>if k=s then r else (k,u)::idel r s
abbrev MEI:=Int×Value×Nat
def MEI.ent (kk:IntKind) (e:MEI):MapEntry:=⟨.int kk e.1,e.2.1,e.2.2⟩
def MEI.cut (e:MEI):Int×Value:=(e.1,e.2.1)
structure MapIOk (es:List MEI) (k:Nat) (l:MLI):Prop where
 cut:es.map MEI.cut=l
 inc:(es.map (·.2.2)).Pairwise (· < ·)
 lt: ∀e∈es,e.2.2<k
def mapIP (kk:IntKind) (b:Nat) (l:MLI) (w:World):Prop:= ∃(es:List MEI) (k:Nat),w.heap[b]?=some (.map (es.map (MEI.ent kk)).toArray k)/\MapIOk es k l
def mapIF (kk:IntKind) (b:Nat) (l:MLI):Fact where
 own:=true
 D:=fun g=>g=b
 p:=mapIP kk b l
 st:=fun w w' hs ⟨es,k,h,q⟩=>⟨es,k,by rw [hs b rfl];exact h,q⟩
def ifnd (s:Int):List MEI->Nat->Option (Nat×Value)
 | [],_=>none
 | e::r,i=>if e.1=s then some (i,e.2.1) else ifnd s r (i+1)
theorem z_nL (s:Int): ∀(es:List MEI) (i:Nat),Instr.findNow (.int kk) (.int kk s) (es.map (MEI.ent kk)) i=some (ifnd s es i)
 | [],i=>rfl
 | e::r,i=>by
  simp only [List.map_cons,Instr.findNow,ifnd]
  have h1:Instr.sameNow (.int kk) (.int kk s) ((MEI.ent kk) e).key=some (decide (s=e.1)):=by
   show (if kk=kk then some (s==e.1) else none)=_
   rw [if_pos rfl]
   rfl
  rw [h1]
  by_cases h:e.1=s
  ·have h':s=e.1:=h.symm
   simp only [decide_eq_true h',if_pos h]
   rfl
  ·have h': ¬s=e.1:=fun q=>h q.symm
   simp only [decide_eq_false h',if_neg h]
   exact z_nL s r (i+1)
theorem z_eQ {P:Program} {kt:TypeId} (hk:P.underlying kt=some (.int kk)) (s:Int) (es:List MEI) (w:World):(Instr.findKey kt (.int kk s) (es.map (MEI.ent kk))).run P w= .ok (ifnd s es 0) w:=by
 exact MapKept.run_findKey hk (z_nL s es 0)
theorem z_dO {P:Program} {kt:TypeId} (hk:P.underlying kt=some (.int kk)) (s:Int) (b:Bool) (w:World):(Instr.checkKey b 10000 kt (.int kk s)).run P w= .ok () w:=by
 exact MapKept.run_checkKey (k:= .int kk s) hk rfl b 9999
theorem z_qX (s:Int): ∀(es:List MEI) (i:Nat),(ifnd s es i).map (·.2)=ilook (es.map MEI.cut) s
 | [],_=>rfl
 | e::r,i=>by
  simp only [ifnd,List.map_cons,ilook,MEI.cut]
  split
  ·rfl
  ·exact z_qX s r (i+1)
theorem z_qP {s:Int}: ∀ {es:List MEI} {i:Nat},ifnd s es i=none-> ∀v b,(es++[(s,v,b)]).map MEI.cut=iput (es.map MEI.cut) s v
 | [],_,_,v,b=>rfl
 | e::r,i,h,v,b=>by
  simp only [ifnd] at h
  split at h
  ·cases h
  ·rename_i hne
   simp only [List.cons_append,List.map_cons,iput,MEI.cut,if_neg hne]
   rw [<-z_qP h v b]
theorem z_ow {s:Int}: ∀ {es:List MEI} {i:Nat} {j:Nat} {u:Value},ifnd s es i=some (j,u)-> ∃(a c:List MEI) (t:Nat),es=a++(s,u,t)::c/\j=i+a.length/\
  (∀v,(a++(s,v,t)::c).map MEI.cut=iput (es.map MEI.cut) s v)/\(a++c).map MEI.cut=idel (es.map MEI.cut) s
 | [],_,_,_,h=>by cases h
 | e::r,i,j,u,h=>by
  simp only [ifnd] at h
  split at h
  ·rename_i he
   simp only [Option.some.injEq,Prod.mk.injEq] at h
   obtain ⟨rfl,rfl⟩:=h
   obtain ⟨k,v0,t⟩:=e
   simp only at he
   subst he
   exact ⟨[],r,t,rfl,rfl,fun v=>by simp [iput,MEI.cut],by simp [idel,MEI.cut]⟩
  ·rename_i hne
   obtain ⟨a,c,t,rfl,rfl,h1,h2⟩:=z_ow h
   refine ⟨e::a,c,t,rfl,by simp;omega,fun v=>?_,?_⟩
   ·simp only [List.cons_append,List.map_cons,iput,MEI.cut,if_neg hne]
    rw [<-h1 v]
   ·simp only [List.cons_append,List.map_cons,idel,MEI.cut,if_neg hne]
    rw [<-h2]
theorem z_sr {P:Program} {t kt et:TypeId} (ht:P.underlying t=some (.map kt et)) (hk:P.underlying kt=some (.int kk)) {w:World} {b:Nat} {l:MLI} (h:mapIP kk b l w) (s:Int) (z:Value) (hz:(zeroValue et).run P w= .ok z w) (ok:Bool):
  (Instr.lookup t (.map (some b)) (.int kk s) ok).run P w= .ok (match ok with | true=> .tuple #[(ilook l s).getD z,.bool (ilook l s).isSome] | false=>(ilook l s).getD z) w:=by
 obtain ⟨es,k,hb,hm⟩:=h
 have hg:(getObj b).run P w= .ok (.map (es.map (MEI.ent kk)).toArray k) w:=MapKept.run_getObj_map hb
 have h1:=z_qX s es 0
 rw [hm.cut] at h1
 simp only [Instr.lookup,Sem.run_bind,run_underlying ht,Result.andThen_ok,hg,z_dO hk,z_eQ hk,Sem.run_pure]
 cases hf:ifnd s es 0 with
 | none=>
  rw [hf] at h1
  simp only [Option.map_none] at h1
  rw [<-h1]
  cases ok<;>simp [hz]
 | some q=>
  obtain ⟨j,v⟩:=q
  rw [hf] at h1
  simp only [Option.map_some] at h1
  rw [<-h1]
  cases ok<;>simp
theorem z_pf {P:Program} {t kt et:TypeId} (ht:P.underlying t=some (.map kt et)) (hk:P.underlying kt=some (.int kk)) {w:World} (s:Int) (z:Value) (hz:(zeroValue et).run P w= .ok z w) (ok:Bool):
  (Instr.lookup t (.map none) (.int kk s) ok).run P w= .ok (match ok with | true=> .tuple #[z,.bool false] | false=>z) w:=by
 have h1:=z_eQ (P:=P) hk s [] w
 simp only [List.map_nil] at h1
 have h2:ifnd s [] 0=none:=rfl
 simp only [Instr.lookup,Sem.run_bind,run_underlying ht,Result.andThen_ok,z_dO hk,Sem.run_pure,h1,h2,hz]
 cases ok<;>simp
theorem z_xn {P:Program} {t kt et:TypeId} (ht:P.underlying t=some (.map kt et)) (hk:P.underlying kt=some (.int kk)) {w:World} {b:Nat} {l:MLI} (h:mapIP kk b l w) (s:Int) (v:Value):
  ∃o,(Instr.mapUpdate t (.map (some b)) (.int kk s) v).run P w= .ok () (w.putObj b o)/\mapIP kk b (iput l s v) (w.putObj b o):=by
 obtain ⟨es,k,hb,hm⟩:=h
 have hlt:b<w.heap.size:=(Array.getElem?_eq_some_iff.1 hb).1
 have hg:(getObj b).run P w= .ok (.map (es.map (MEI.ent kk)).toArray k) w:=MapKept.run_getObj_map hb
 have hput: ∀o,(w.putObj b o).heap[b]?=some o:=fun o=>World.putObj_heap_same hlt
 simp only [Instr.mapUpdate,Sem.run_bind,run_underlying ht,Result.andThen_ok,hg,z_dO hk,z_eQ hk,Sem.run_pure]
 cases hf:ifnd s es 0 with
 | none=>
  refine ⟨.map ((es++[(s,v,k)]).map (MEI.ent kk)).toArray (k+1),?_,es++[(s,v,k)],k+1,hput _,by rw [z_qP hf v k,hm.cut],?_,?_⟩
  ·have:=MapKept.run_setObj_map (P:=P) (.map ((es++[(s,v,k)]).map (MEI.ent kk)).toArray (k+1)) hb
   simpa [MEI.ent,World.putObj] using this
  ·rw [List.map_append,List.pairwise_append]
   refine ⟨hm.inc,List.pairwise_singleton _ _,fun x hx y hy=>?_⟩
   obtain ⟨e,he,rfl⟩:=List.mem_map.1 hx
   simp only [List.map_cons,List.map_nil,List.mem_singleton] at hy
   subst hy
   exact hm.lt e he
  ·intro e he
   rcases List.mem_append.1 he with he | he
   ·exact Nat.lt_succ_of_lt (hm.lt e he)
   ·obtain rfl:=List.mem_singleton.1 he
    exact Nat.lt_succ_self _
 | some q=>
  obtain ⟨j,u⟩:=q
  obtain ⟨a,c,t0,rfl,hj,h1,_⟩:=z_ow hf
  rw [Nat.zero_add] at hj
  subst hj
  refine ⟨.map ((a++(s,v,t0)::c).map (MEI.ent kk)).toArray k,?_,a++(s,v,t0)::c,k,hput _,by rw [h1 v,hm.cut],?_,?_⟩
  ·have hkey:((((a++(s,u,t0)::c).map (MEI.ent kk)).toArray)[a.length]?).map (·.key)=some (.int kk s):=by simp [MEI.ent]
   have hstay:(Instr.keyThatStays (.int kk s) (.int kk s)).run P w= .ok (.int kk s) w:=MapKept.run_keyThatStays (d:= .int kk) (k:= .int kk s) rfl
   have hmod:(((a++(s,u,t0)::c).map (MEI.ent kk)).toArray).modify a.length (fun e=> {e with key:= .int kk s,val:=v})=((a++(s,v,t0)::c).map (MEI.ent kk)).toArray:=by
    apply Array.ext'
    simp only [Array.toList_modify,List.map_append,List.map_cons]
    have:=z_m2 (fun e:MapEntry=> {e with key:= .int kk s,val:=v}) ((MEI.ent kk) (s,u,t0)) (c.map (MEI.ent kk)) (a.map (MEI.ent kk))
    rw [List.length_map] at this
    rw [this]
    rfl
   simp only [hkey,Option.getD_some,Sem.run_bind,hstay,Result.andThen_ok,hmod]
   exact MapKept.run_setObj_map _ hb
  ·have:=hm.inc
   simpa using this
  ·intro e he
   have hlt:=hm.lt
   rcases List.mem_append.1 he with he | he
   ·exact hlt e (List.mem_append_left _ he)
   ·rcases List.mem_cons.1 he with rfl | he
    ·exact hlt (s,u,t0) (by simp)
    ·exact hlt e (by simp [he])
theorem z_pX {α:Type} (x:α) (c:List α): ∀a:List α,(a++x::c).eraseIdx a.length=a++c
 | []=>rfl
 | y::a=>by simp [z_pX x c a]
theorem z_mI {s:Int}: ∀ {es:List MEI} {i:Nat},ifnd s es i=none->idel (es.map MEI.cut) s=es.map MEI.cut
 | [],_,_=>rfl
 | e::r,i,h=>by
  simp only [ifnd] at h
  split at h
  ·cases h
  ·rename_i hne
   simp only [List.map_cons,idel,MEI.cut,if_neg hne]
   exact congrArg (List.cons _) (z_mI h)
theorem z_w9 {P:Program} {t tk kt et:TypeId} (ht:P.underlying t=some (.map kt et)) (hk:P.underlying kt=some (.int kk)) {w:World} {b:Nat} {l:MLI} (h:mapIP kk b l w) (s:Int) (ty:TypeId) (cst:Array Bool):
  ∃o,(builtin .delete #[t,tk] ty cst #[.map (some b),.int kk s]).run P w= .ok (.value (.tuple #[])) (w.putObj b o)/\mapIP kk b (idel l s) (w.putObj b o):=by
 obtain ⟨es,k,hb,hm⟩:=h
 have hlt:b<w.heap.size:=(Array.getElem?_eq_some_iff.1 hb).1
 have hg:(getObj b).run P w= .ok (.map (es.map (MEI.ent kk)).toArray k) w:=MapKept.run_getObj_map hb
 have hput: ∀o,(w.putObj b o).heap[b]?=some o:=fun o=>World.putObj_heap_same hlt
 cases hf:ifnd s es 0 with
 | none=>
  refine ⟨.map (es.map (MEI.ent kk)).toArray k,?_,es,k,hput _,?_,hm.inc,hm.lt⟩
  ·have h1:=MapKept.run_setObj_map (P:=P) (.map (es.map (MEI.ent kk)).toArray k) hb
   have h2:=z_eQ (P:=P) hk s es w
   rw [hf] at h2
   have h1':(setObj b (.map (es.map (MEI.ent kk)).toArray k)).run P w= .ok () (w.putObj b (.map (es.map (MEI.ent kk)).toArray k)):=h1
   simp only [builtin,Builtin.delete_,Sem.run_bind,run_underlying ht,hg,z_dO hk,h2,Result.andThen_ok,Sem.run_pure,List.getElem?_toArray,List.getElem?_cons_zero,List.getElem?_cons_succ,h1']
  ·rw [<-hm.cut];exact (z_mI hf).symm
 | some q=>
  obtain ⟨j,u⟩:=q
  obtain ⟨a,c,t0,rfl,hj,_,h2⟩:=z_ow hf
  rw [Nat.zero_add] at hj
  subst hj
  have he:((a++(s,u,t0)::c).map (MEI.ent kk)).toArray.eraseIdxIfInBounds a.length=((a++c).map (MEI.ent kk)).toArray:=by
   apply Array.ext'
   have:=z_pX ((MEI.ent kk) (s,u,t0)) (c.map (MEI.ent kk)) (a.map (MEI.ent kk))
   rw [List.length_map] at this
   simp [Array.eraseIdxIfInBounds,List.map_append,this]
  refine ⟨.map ((a++c).map (MEI.ent kk)).toArray k,?_,a++c,k,hput _,by rw [h2,hm.cut],?_,fun e he'=>hm.lt e ?_⟩
  ·have h1:=MapKept.run_setObj_map (P:=P) (.map ((a++c).map (MEI.ent kk)).toArray k) hb
   have h3:=z_eQ (P:=P) hk s (a++(s,u,t0)::c) w
   rw [hf] at h3
   have h1':(setObj b (.map ((a++c).map (MEI.ent kk)).toArray k)).run P w= .ok () (w.putObj b (.map ((a++c).map (MEI.ent kk)).toArray k)):=h1
   simp only [builtin,Builtin.delete_,Sem.run_bind,run_underlying ht,hg,z_dO hk,h3,Result.andThen_ok,Sem.run_pure,List.getElem?_toArray,List.getElem?_cons_zero,List.getElem?_cons_succ,he,h1']
  ·have:=hm.inc
   rw [List.map_append,List.map_cons] at this
   rw [List.map_append]
   exact this.sublist ((List.sublist_cons_self _ _).append_left _)
  ·rcases List.mem_append.1 he' with q | q
   ·exact List.mem_append_left _ q
   ·exact List.mem_append_right _ (List.mem_cons_of_mem _ q)
end Go.Proofs.YtfomhhkoamapmaaGreatDoor.Sx
namespace Go.Proofs.YtfomhhkoamapmaaGreatDoor.Sx
open Go
section
variable {P:Program} {t:TypeId} {i:TI}
theorem TiOk.row (h:TiOk P t i): ∃x z,P.info? t=some x/\x.zero=some z/\z.cells.toList=i.zero/\x.size=i.size/\x.bytes=i.bytes:=by
 obtain ⟨x,hx,he⟩:=Option.map_eq_some_iff.1 h.info
 simp only [Prod.mk.injEq] at he
 obtain ⟨z,hz,hzc⟩:=Option.map_eq_some_iff.1 he.1
 exact ⟨x,z,hx,hz,hzc,he.2.1,he.2.2⟩
theorem TiOk.run_size (h:TiOk P t i) (w:World):(sizeOf t).run P w= .ok i.size w:=by
 obtain ⟨x,z,hx,_,_,hs,_⟩:=h.row
 simp [sizeOf,typeInfo,hx,go_sem,hs]
theorem TiOk.run_zero (h:TiOk P t i) (w:World): ∃z,(zeroValue t).run P w= .ok z w/\z.cells.toList=i.zero:=by
 obtain ⟨x,z,hx,hz,hzc,_,_⟩:=h.row
 exact ⟨z,by simp [zeroValue,typeInfo,hx,hz,go_sem],hzc⟩
theorem TiOk.run_agg (h:TiOk P t i) (w:World):(isAgg t).run P w= .ok i.agg w:=by
 rw [h.agg]
 obtain ⟨d,h1,h2⟩:=Option.map_eq_some_iff.1 h.under
 simp only [isAgg,Sem.run_bind,run_underlying h1 w,Result.andThen_ok,<-h2]
 cases d<;>simp [aggD,shapeD,go_sem]
end
def ofValue:Value->SV
 | .agg cs=> .agg (cs.toList.map SL.v)
 | x=> .c (.v x)
theorem z_et (β:Va) (x:Value):(ofValue x).val β=x:=by
 cases x<;>simp [ofValue,SV.val,SL.val,Function.comp_def]
theorem z_fH (n:Nat) (x:Value):(ofValue x).lt n:=by
 cases x<;>simp [ofValue,SV.lt,SL.lt]
def ev (env:Env):Operand->Option SV
 | .tmp t=>get env t
 | .const x=>some (ofValue x)
 | .global g=>some (.c (.v (.pointer (some ⟨g,0,none⟩))))
 | .func f=>some (.c (.v (.func (.func f) #[] #[])))
section
variable {cx:Cx} {β:Va} {n:Nat} {env:Env} {H:List Bk} {F:List Fact} {a:Act} {w:World}
theorem Inv.ev (h:Inv cx β n env H F a w) {x:Operand} {s:SV} (hx:ev env x=some s):a.eval x=s.val β/\s.lt n:=by
 cases x with
 | tmp t=>
  refine ⟨?_,h.lte t s hx⟩
  simp only [Act.eval,Array.getD_eq_getD_getElem?,h.ag t s hx,Option.getD_some]
 | const x=>
  simp only [Sx.ev,Option.some.injEq] at hx
  subst hx
  exact ⟨(z_et β x).symm,z_fH _ x⟩
 | global g=>
  simp only [Sx.ev,Option.some.injEq] at hx
  subst hx
  exact ⟨rfl,trivial⟩
 | func f=>
  simp only [Sx.ev,Option.some.injEq] at hx
  subst hx
  exact ⟨rfl,trivial⟩
end
def BIf (T F:Prop) (b:Bool):Prop:=match b with | true=>T | false=>F
theorem BIf.mk {b:Bool} {T F:Prop} (ht:b=true->T) (hf:b=false->F):BIf T F b:=by
 cases b
 ·exact hf rfl
 ·exact ht rfl
theorem BIf.dec {p:Prop} [Decidable p] {T F:Prop} (ht:p->T) (hf: ¬p->F):BIf T F (decide p):=
 BIf.mk (fun h=>ht (of_decide_eq_true h)) (fun h=>hf (of_decide_eq_false h))
theorem BIf.not {b:Bool} {T F:Prop} (h:BIf F T b):BIf T F (!b):=by cases b<;>exact h
theorem BIf.out {b:Bool} {T F:Prop} (h:BIf T F b):(b=true->T)/\(b=false->F):=by
 cases b
 ·exact ⟨fun h=>by (cases h),fun _=>h⟩
 ·exact ⟨fun _=>h,fun h=>by (cases h)⟩
def put (N n:Nat) (env:Env) (H:List Bk) (F:List Fact) (dst:Option Tmp) (s:SV) (K:KT):Prop:=
 match dst with
 | none=>K n env H F
 | some d=>match Nat.blt d N with
  | true=>K n ((d,s)::env) H F
  | false=>False
def After (cx:Cx) (K:KT) (a:Act) (w:World):Prop:= ∃β n env H F,Inv cx β n env H F a w/\K n env H F
def AfterE (cx:Cx) (β0:Va) (n0:Nat) (K:KT) (a:Act) (w:World):Prop:= ∃β n env H F,Agr n0 β0 β/\n0<=n/\Inv cx β n env H F a w/\K n env H F
theorem AfterE.ext {cx:Cx} {β0 β1:Va} {n0 n1:Nat} {K:KT} {a:Act} {w:World} (h:AfterE cx β1 n1 K a w) (hb:Agr n0 β0 β1) (hn:n0<=n1):AfterE cx β0 n0 K a w:=by
 obtain ⟨β,n,env,H,F,h1,h2,h3,h4⟩:=h
 exact ⟨β,n,env,H,F,hb.trans h1 hn,Nat.le_trans hn h2,h3,h4⟩
theorem z_aL {cx:Cx} {β:Va} {n:Nat} {env:Env} {H:List Bk} {F:List Fact} {a:Act} {w:World} {dst:Option Tmp} {s:SV} {K:KT}
  (h:Inv cx β n env H F a w) (hs:s.lt n) (hp:put cx.N n env H F dst s K):AfterE cx β n K (a.put dst (s.val β)) w:=by
 cases dst with
 | none=>exact ⟨β,n,env,H,F,Agr.refl _ _,Nat.le_refl _,h,hp⟩
 | some d=>
  simp only [put] at hp
  cases hb:Nat.blt d cx.N with
  | false=>rw [hb] at hp;exact hp.elim
  | true=>
   rw [hb] at hp
   have hd:d<cx.N:=by simpa [Nat.blt_eq] using hb
   refine ⟨β,n,_,_,_,Agr.refl _ _,Nat.le_refl _,⟨?_,?_,h.df,?_,h.sat⟩,hp⟩
   ·intro t s' ht
    simp only [Act.put]
    by_cases hdt:d=t
    ·subst hdt
     rw [z_dW] at ht
     obtain rfl:=Option.some.inj ht
     rw [Array.getElem?_setIfInBounds]
     simp [h.size,hd]
    ·rw [z_cq _ _ hdt] at ht
     rw [Array.getElem?_setIfInBounds_ne hdt]
     exact h.ag t s' ht
   ·simp [Act.put,h.size]
   ·intro t s' ht
    by_cases hdt:d=t
    ·subst hdt
     rw [z_dW] at ht
     obtain rfl:=Option.some.inj ht
     exact hs
    ·rw [z_cq _ _ hdt] at ht
     exact h.lte t s' ht
theorem z_gd {cx:Cx} {o:Oper} {a:Act} {w w':World} {v:Value} {K:Act->World->Prop} {Q:Exit->Act->World->Prop}
  (h:(execOp a.eval o).run cx.P w= .ok (.value v) w') (hd: ∀c,o.op≠ .defer c) (hk:K (a.put o.dst v) w'):o.wpIn cx.fence 0 cx.P a w K Q:=by
 unfold Oper.wpIn
 rw [Oper.semAt_eq _ _ _ hd,h]
 exact ⟨fun f _=>cx.fence_fn f,hk⟩
theorem z_qy {cx:Cx} {o:Oper} {a:Act} {w w':World} {K:Act->World->Prop} {Q:Exit->Act->World->Prop}
  (h:(execOp a.eval o).run cx.P w= .ok .skip w') (hd: ∀c,o.op≠ .defer c) (hk:K (a.put o.dst undef) w'):o.wpIn cx.fence 0 cx.P a w K Q:=by
 unfold Oper.wpIn
 rw [Oper.semAt_eq _ _ _ hd,h]
 exact ⟨fun f _=>cx.fence_fn f,hk⟩
theorem notDefer {o:Oper} {x:Op} (h:o.op=x) (hx: ∀c,x≠ .defer c): ∀c,o.op≠ .defer c:=by rw [h];exact hx
def ikEq (x y:IntKind):Bool:=match x,y with
 | .i8,.i8 | .i16,.i16 | .i32,.i32 | .i64,.i64 | .u8,.u8 | .u16,.u16 | .u32,.u32 | .u64,.u64=>true
 | _,_=>false
theorem z_yD {x y:IntKind} (h:ikEq x y=true):x=y:=by cases x<;>cases y<;>first | rfl | cases h
def bl (b:Bool):SV:= .c (.v (.bool b))
def intwp (op:BinOp) (k:IntKind) (x:Int) (y:Int) (kk:SV->Prop):Prop:=
 match op with
 | .add=> ∃r,k.wrap (x+y)=r/\kk (.c (.v (.int k r)))
 | .sub=> ∃r,k.wrap (x - y)=r/\kk (.c (.v (.int k r)))
 | .mul=> ∃r,k.wrap (x*y)=r/\kk (.c (.v (.int k r)))
 | .quo=>y≠0/\ ∃r,k.wrap (x.tdiv y)=r/\kk (.c (.v (.int k r)))
 | .rem=>y≠0/\ ∃r,x.tmod y=r/\kk (.c (.v (.int k r)))
 | .and | .or | .xor | .andNot=> ∃r,bits op k x y=r/\kk (.c (.v (.int k r)))
 | .eql=>kk (bl (decide (x=y)))
 | .neq=>kk (bl (!decide (x=y)))
 | .lss=>kk (bl (decide (x<y)))
 | .leq=>kk (bl (decide (x<=y)))
 | .gtr=>kk (bl (decide (y<x)))
 | .geq=>kk (bl (decide (y<=x)))
 | .shl | .shr=>False
def shwp (op:BinOp) (k:IntKind) (x:Int) (y:Int) (kk:SV->Prop):Prop:=
 match op with
 | .shl=>0<=y/\ ∃r,k.wrap (x*2^(min y.toNat k.bits))=r/\kk (.c (.v (.int k r)))
 | .shr=>0<=y/\ ∃r,x.fdiv (2^(min y.toNat k.bits))=r/\kk (.c (.v (.int k r)))
 | _=>False
def strwp (op:BinOp) (x y:ByteArray) (kk:SV->Prop):Prop:=
 match op with
 | .add=>x.size+y.size<=maxLen/\kk (.c (.v (.string (x++y))))
 | .eql=>kk (bl (decide (x=y)))
 | .neq=>kk (bl (!decide (x=y)))
 | .lss=>kk (bl (Op.bytesLess x.toList y.toList))
 | .leq=>kk (bl (Op.bytesLess x.toList y.toList || decide (x=y)))
 | .gtr=>kk (bl (!(Op.bytesLess x.toList y.toList || decide (x=y))))
 | .geq=>kk (bl (!Op.bytesLess x.toList y.toList))
 | _=>False
theorem z_fD (x y:ByteArray):(x.toList==y.toList)=decide (x=y):=by
 by_cases h:x=y
 ·subst h;simp
 ·simp only [h,decide_false]
  rw [beq_eq_false_iff_ne]
  intro q
  rw [ByteArray.toList_eq,ByteArray.toList_eq] at q
  exact h (by cases x;cases y;simp only [Array.toList_inj] at q;subst q;rfl)
def binSem (op:BinOp) (t:TypeId) (x y:Operand) (a b:Value):Sem Value:=do eqGuard op t x y a b;binOp op t a b
def nilwp (op:BinOp) (b:Bool) (kk:SV->Prop):Prop:=
 match op with
 | .eql=>kk (bl b)
 | .neq=>kk (bl (!b))
 | _=>False
def binwp (d:TD) (op:BinOp) (s u:SV) (kk:SV->Prop):Prop:=
 match s,u with
 | .c (.v (.int k x)),.c (.v (.int l y))=>
  match op with
  | .shl=>shwp .shl k x y kk
  | .shr=>shwp .shr k x y kk
  | op=>match ikEq k l with | true=>intwp op k x y kk | false=>False
 | .c (.v (.string x)),.c (.v (.string y))=>strwp op x y kk
 | .c (.p _ _),.c (.v (.pointer none))=>match d with | .pointer _=>nilwp op false kk | _=>False
 | .c (.v (.pointer p)),.c (.v (.pointer none))=>match d with | .pointer _=>nilwp op p.isNone kk | _=>False
 | .c (.v (.slice p _ _)),.c (.v (.slice none _ _))=>match d with | .slice _=>nilwp op p.isNone kk | _=>False
 | .c (.v (.map p)),.c (.v (.map none))=>match d with | .map _ _=>nilwp op p.isNone kk | _=>False
 | .c (.v (.bool x)),.c (.v (.bool y))=>match d with | .bool=>nilwp op (x==y) kk | _=>False
 | _,_=>False
def unwp (op:UnOp) (s:SV) (kk:SV->Prop):Prop:=
 match op,s with
 | .not,.c (.v (.bool b))=>kk (bl (!b))
 | .neg,.c (.v (.int k x))=> ∃r,k.wrap (0 - x)=r/\kk (.c (.v (.int k r)))
 | .xor,.c (.v (.int k x))=> ∃r,bits .xor k (if k.signed then -1 else k.max) x=r/\kk (.c (.v (.int k r)))
 | _,_=>False
def Rd (size:Nat) (A:Option Addr) (n:Nat) (xs:List Value) (w:World):Prop:=
 xs.length=n*size/\(0<n-> ∃ad,A=some ad/\ ∀j u,xs[j]?=some u->w.cell? (ad.add j)=some u)
def byte (x:UInt8):Value:= .int .u8 (x.toNat:Int)
def slen (s:SV) (kk:SV->Prop) (d:TD):Prop:=
 match s,d with
 | .c (.v (.slice _ n _)),.slice _=>kk (.c (.v (.int .i64 n)))
 | .c (.v (.string x)),.string=>kk (.c (.v (.int .i64 x.size)))
 | _,_=>False
def scap (s:SV) (kk:SV->Prop) (d:TD):Prop:=
 match s,d with
 | .c (.v (.slice _ _ c)),.slice _=>kk (.c (.v (.int .i64 c)))
 | _,_=>False
def optInt (env:Env):Option Operand->Option (Option Int)
 | none=>some none
 | some x=>match ev env x with | some (.c (.v (.int _ i)))=>some (some i) | _=>none
def isNat (i:Option Int) (d l:Nat):Prop:=match i with | none=>l=d | some i=>i=(l:Int)
def cutA (A:Option Addr) (m l size:Nat):Option Addr:=if m=l then A else A.map (·.add (l*size))
def slwp (cx:Cx) (env:Env) (t:TypeId) (s:SV) (lo hi mx:Option Operand) (kk:SV->Prop):Prop:=
 match lk cx.tt t,optInt env lo,optInt env hi,optInt env mx with
 | some i,some lo,some hi,some mx=>
  match i.desc,s with
  | .slice e,.c (.v (.slice A n c))=>match lk cx.tt e with
   | some ie=> ∃(m h l p q:Nat) (A':Option Addr),isNat mx c m/\isNat hi n h/\isNat lo 0 l/\m<=c/\h<=m/\l<=h/\h - l=p/\m - l=q/\cutA A m l ie.size=A'/\kk (.c (.v (.slice A' p q)))
   | none=>False
  | .pointer arr,.c (.v (.pointer (some ad)))=>match lk cx.tt arr with
   | some ia=>match ia.desc with
    | .array k e=>match lk cx.tt e with
     | some ie=> ∃(m h l p q:Nat) (A':Option Addr),isNat mx k m/\isNat hi k h/\isNat lo 0 l/\m<=k/\h<=m/\l<=h/\h - l=p/\m - l=q/\cutA (some ad) m l ie.size=A'/\kk (.c (.v (.slice A' p q)))
     | none=>False
    | _=>False
   | none=>False
  | .array k e,.c (.v (.pointer (some ad)))=>match lk cx.tt e with
   | some ie=> ∃(m h l p q:Nat) (A':Option Addr),isNat mx k m/\isNat hi k h/\isNat lo 0 l/\m<=k/\h<=m/\l<=h/\h - l=p/\m - l=q/\cutA (some ad) m l ie.size=A'/\kk (.c (.v (.slice A' p q)))
   | none=>False
  | .string,.c (.v (.string x))=>match mx with
   | none=> ∃h l:Nat,isNat hi x.size h/\isNat lo 0 l/\h<=x.size/\l<=h/\kk (.c (.v (.string (x.extract l h))))
   | some _=>False
  | _,_=>False
 | _,_,_,_=>False
def nonzero:Nat->Bool | 0=>false | _+1=>true
def fawp (cx:Cx) (t:TypeId) (s:SV) (f:Nat) (kk:SV->Prop):Prop:=
 match lk cx.tt t with
 | some i=>match i.desc with
  | .struct=>match nth i.fields f with
   | some (off,size)=>match nonzero size with
    | true=>match s with
     | .c (.p id o)=>kk (.c (.p id (o+off)))
     | .c (.v (.pointer (some a)))=>kk (.c (.v (.pointer (some (a.add off)))))
     | _=>False
    | false=>False
   | none=>False
  | _=>False
 | none=>False
def ixwp (cx:Cx) (t:TypeId) (s u:SV) (kk:SV->Prop):Prop:=
 match lk cx.tt t with
 | some i=>match i.desc,s,u with
  | .slice e,.c (.v (.slice A n _)),.c (.v (.int _ x))=>match lk cx.tt e with
   | some ie=> ∃(ad:Addr) (j:Nat),A=some ad/\x=(j:Int)/\j<n/\kk (.c (.v (.pointer (some (ad.add (j*ie.size))))))
   | none=>False
  | .array n e,.c (.p id o),.c (.v (.int _ x))=>match lk cx.tt e with
   | some ie=> ∃j:Nat,x=(j:Int)/\j<n/\kk (.c (.p id (o+j*ie.size)))
   | none=>False
  | .array n e,.c (.v (.pointer (some ad))),.c (.v (.int _ x))=>match lk cx.tt e with
   | some ie=> ∃j:Nat,x=(j:Int)/\j<n/\kk (.c (.v (.pointer (some (ad.add (j*ie.size))))))
   | none=>False
  | _,_,_=>False
 | none=>False
def ivwp (cx:Cx) (t:TypeId) (s u:SV) (kk:SV->Prop):Prop:=
 match lk cx.tt t with
 | some i=>match i.desc,s,u with
  | .string,.c (.v (.string x)),.c (.v (.int _ y))=> ∃(j:Nat) (b:UInt8),y=(j:Int)/\x.data.toList[j]?=some b/\kk (.c (.v (byte b)))
  | .array n e,.agg xs,.c (.v (.int _ y))=>match lk cx.tt e with
   | some ie=>match ie.agg with
    | false=> ∃(j:Nat) (z:SL),y=(j:Int)/\j<n/\xs[j*ie.size]?=some z/\kk (.c z)
    | true=> ∃(j:Nat) (zs:List SL),y=(j:Int)/\j<n/\(xs.drop (j*ie.size)).take ie.size=zs/\kk (.agg zs)
   | none=>False
  | _,_,_=>False
 | none=>False
def exwp (s:SV) (ix:Nat) (kk:SV->Prop):Prop:=
 match s with
 | .c (.v (.tuple vs))=>match nth vs.toList ix with | some x=>kk (ofValue x) | none=>False
 | _=>False
def fvwp (cx:Cx) (t:TypeId) (s:SV) (f:Nat) (kk:SV->Prop):Prop:=
 match lk cx.tt t with
 | some i=>match i.desc,s,nth i.fields f with
  | .struct,.agg xs,some (off,size)=>match nth i.ftys f with
   | some g=>match lk cx.tt g with
    | some ig=>match ig.agg with
     | false=>match nth xs off with | some z=>kk (.c z) | none=>False
     | true=>match takeAt xs off size with | some zs=>kk (.agg zs) | none=>False
    | none=>False
   | none=>False
  | _,_,_=>False
 | none=>False
def flat:SV->Option (List SL)
 | .c (.p id o)=>some [.p id o]
 | .c (.v x)=>match x with | .agg _ | .tuple _=>none | x=>some [.v x]
 | .agg xs=>some xs
 | .fn f [] []=>some [.v (.func f #[] #[])]
 | .fn _ _ _=>none
def fillwp (env:Env) (fields:List (Nat×Nat)):List SL->List (Nat×Operand)->(List SL->Prop)->Prop
 | cs,[],kk=>kk cs
 | cs,(i,x)::r,kk=>match nth fields i,ev env x with
  | some (off,size),some s=>match flat s with
   | some ys=>match Nat.beq ys.length size,Nat.ble (off+ys.length) cs.length with
    | true,true=>fillwp env fields (putAll cs off ys) r kk
    | _,_=>False
   | none=>False
  | _,_=>False
def places (size:Nat):Nat->Nat->List (Nat×Nat)
 | _,0=>[]
 | i,k+1=>(i*size,size)::places size (i+1) k
def buwp (cx:Cx) (env:Env) (t:TypeId) (parts:Array (Nat×Operand)) (kk:SV->Prop):Prop:=
 match lk cx.tt t with
 | some i=>match i.desc with
  | .struct=>fillwp env i.fields (i.zero.map SL.v) parts.toList fun cs=>kk (.agg cs)
  | .array m e=>match lk cx.tt e with
   | some ie=>fillwp env (places ie.size 0 m) (i.zero.map SL.v) parts.toList fun cs=>kk (.agg cs)
   | none=>False
  | _=>False
 | none=>False
def cvwp (cx:Cx) (n:Nat) (H:List Bk) (F:List Fact) (src dst:TypeId) (s:SV) (kk:SV->Prop):Prop:=
 match lk cx.tt src,lk cx.tt dst with
 | some i,some j=>match i.desc,j.desc,s with
  | .int _,.int k,.c (.v (.int _ x))=> ∃r,k.wrap x=r/\kk (.c (.v (.int k r)))
  | .string,.string,.c (.v (.string x))=>kk (.c (.v (.string x)))
  | .slice e,.string,.c (.v (.slice A m _))=>match lk cx.tt e with
   | some ie=>match ie.desc with
    | .int .u8=> ∃l:List UInt8,(∀β w,Sat cx β n H F w->Rd 1 A m (l.map byte) w)/\kk (.c (.v (.string ⟨l.toArray⟩)))
    | _=>False
   | none=>False
  | _,_,_=>False
 | _,_=>False
def ldwp (cx:Cx) (n:Nat) (H:List Bk) (F:List Fact) (t:TypeId) (s:SV) (kk:SV->Prop):Prop:=
 match lk cx.tt t with
 | some i=>match i.agg,s with
  | false,.c (.p id o)=>match cellsAt H id with
   | some cs=>match nth cs o with | some x=>kk (.c x) | none=>False
   | none=>False
  | true,.c (.p id o)=>match cellsAt H id with
   | some cs=>match takeAt cs o i.size with | some xs=>kk (.agg xs) | none=>False
   | none=>False
  | false,.c (.v (.pointer (some a)))=> ∃x,(∀β w,Sat cx β n H F w->w.cell? a=some x)/\kk (.c (.v x))
  | true,.c (.v (.pointer (some a)))=> ∃xs:List Value,xs.length=i.size/\(∀β w,Sat cx β n H F w-> ∀j u,xs[j]?=some u->w.cell? (a.add j)=some u)/\kk (.agg (xs.map SL.v))
  | _,_=>False
 | none=>False
def mmwp (mx:Bool) (env:Env) (args:List Operand) (kk:SV->Prop):Prop:=
 match args with
 | [x,y]=>match ev env x,ev env y with
  | some (.c (.v (.int k a))),some (.c (.v (.int _ b)))=> ∃r,(match mx with | true=>max a b | false=>min a b)=r/\kk (.c (.v (.int k r)))
  | _,_=>False
 | _=>False
def bi1 (cx:Cx) (env:Env) (c:Call) (f:SV->(SV->Prop)->TD->Prop) (kk:SV->Prop):Prop:=
 match c.args.toList,c.argTypes.toList with
 | x::_,t::_=>match ev env x,lk cx.tt t with
  | some s,some i=>f s kk i.desc
  | _,_=>False
 | _,_=>False
def ikey (cx:Cx) (kt:TypeId):Option IntKind:=match lk cx.tt kt with
 | some ik=>match ik.desc with
  | .int k=>some k
  | _=>none
 | none=>none
def lenwp (cx:Cx) (n:Nat) (env:Env) (H:List Bk) (F:List Fact) (c:Call) (kk:SV->Prop):Prop:=
 match c.args.toList,c.argTypes.toList with
 | x::_,t::_=>match ev env x,lk cx.tt t with
  | some s,some i=>match s,i.desc with
   | .c (.v (.map m)),.map kt _=>(match m with
    | none=>kk (.c (.v (.int .i64 0)))
    | some b=>(match ikey cx kt with
     | none=> ∃l:ML,(∀β w,Sat cx β n H F w->mapP b l w)/\kk (.c (.v (.int .i64 l.length)))
     | some ki=> ∃l:MLI,(∀β w,Sat cx β n H F w->mapIP ki b l w)/\kk (.c (.v (.int .i64 l.length)))))
   | s,d=>slen s kk d
  | _,_=>False
 | _,_=>False
def lkres (ok:Bool) (r:Option Value) (z:Value):SV:=match ok with
 | true=> .c (.v (.tuple #[r.getD z,.bool r.isSome]))
 | false=>ofValue (r.getD z)
def lkwp (cx:Cx) (n:Nat) (H:List Bk) (F:List Fact) (t:TypeId) (s u:SV) (ok:Bool) (kk:SV->Prop):Prop:=
 match lk cx.tt t with
 | some i=>match i.desc,s,u with
  | .map kt et,.c (.v (.map m)),.c (.v (.string k))=>match lk cx.tt kt with
   | some ik=>match ik.desc with
    | .string=> ∃z,(∀w,(zeroValue et).run cx.P w= .ok z w)/\(match m with
     | none=>kk (lkres ok none z)
     | some b=> ∃(l:ML) (r:Option Value),(∀β w,Sat cx β n H F w->mapP b l w)/\mlook l k=r/\kk (lkres ok r z))
    | _=>False
   | none=>False
  | .map kt et,.c (.v (.map m)),.c (.v (.int ki k))=>match lk cx.tt kt with
   | some ik=>match ik.desc with
    | .int kj=>kj=ki/\ ∃z,(∀w,(zeroValue et).run cx.P w= .ok z w)/\(match m with
     | none=>kk (lkres ok none z)
     | some b=> ∃(l:MLI) (r:Option Value),(∀β w,Sat cx β n H F w->mapIP ki b l w)/\ilook l k=r/\kk (lkres ok r z))
    | _=>False
   | none=>False
  | _,_,_=>False
 | none=>False
def capsOf (env:Env):List Operand->Option (List SL)
 | []=>some []
 | x::r=>match ev env x,capsOf env r with
  | some (.c y),some l=>some (y::l)
  | _,_=>none
def rowp (cx:Cx) (n:Nat) (env:Env) (H:List Bk) (F:List Fact) (op:Op) (kk:SV->Prop):Prop:=
 match op with
 | .move x | .assign x=>match ev env x with | some s=>kk s | none=>False
 | .pick c x y=>match ev env c,ev env x,ev env y with
  | some (.c (.v (.bool b))),some s,some u=>(match b with | true=>kk s | false=>kk u)
  | _,_,_=>False
 | .nilCheck x=>match ev env x with
  | some (.c (.p id o))=>kk (.c (.p id o))
  | some (.c (.v (.pointer (some a))))=>kk (.c (.v (.pointer (some a))))
  | _=>False
 | .binOp op t x y _=>match lk cx.tt t,ev env x,ev env y with
  | some _,some (.agg xs),some (.agg ys)=> ∃b:Bool,(∀(β:Va) (w:World),(binSem op t x y ((SV.agg xs).val β) ((SV.agg ys).val β)).run cx.P w= .ok (.bool b) w)/\kk (bl b)
  | some _,some (.c (.v a)),some (.c (.v .nilIface))=> ∃b:Bool,(∀w:World,(binSem op t x y a .nilIface).run cx.P w= .ok (.bool b) w)/\kk (bl b)
  | some i,some s,some u=>binwp i.desc op s u kk
  | _,_,_=>False
 | .unOp op _ x=>match ev env x with | some s=>unwp op s kk | none=>False
 | .convert src dst x=>match ev env x with | some s=>cvwp cx n H F src dst s kk | none=>False
 | .load t x=>match ev env x with | some s=>ldwp cx n H F t s kk | none=>False
 | .slice t x lo hi mx=>match ev env x with | some s=>slwp cx env t s lo hi mx kk | none=>False
 | .fieldAddr t x f=>match ev env x with | some s=>fawp cx t s f kk | none=>False
 | .field t x f=>match ev env x with | some s=>fvwp cx t s f kk | none=>False
 | .indexAddr t x y=>match ev env x,ev env y with | some s,some u=>ixwp cx t s u kk | _,_=>False
 | .index t x y=>match ev env x,ev env y with | some s,some u=>ivwp cx t s u kk | _,_=>False
 | .extract x i=>match ev env x with | some s=>exwp s i kk | none=>False
 | .lookup t x y ok=>match ev env x,ev env y with | some s,some u=>lkwp cx n H F t s u ok kk | _,_=>False
 | .build t parts=>buwp cx env t parts kk
 | .makeFunc f first caps=>match capsOf env first.toList,capsOf env caps.toList with | some a,some b=>kk (.fn f a b) | _,_=>False
 | .call c=>match c.callee with
  | .builtin .len=>lenwp cx n env H F c kk
  | .builtin .cap=>bi1 cx env c scap kk
  | .builtin .min=>mmwp false env c.args.toList kk
  | .builtin .max=>mmwp true env c.args.toList kk
  | _=>False
 | _=>False
end Go.Proofs.YtfomhhkoamapmaaGreatDoor.Sx
namespace Go.Proofs.YtfomhhkoamapmaaGreatDoor.Sx
open Go
def nres (op:BinOp) (b:Bool):Bool:=match op with | .eql=>b | _=>!b
section
variable {P:Program} {t:TypeId}
theorem z_wX (x y:Value) (b:Bool) (op:BinOp) (w:World)
  (h: ∀k,(Op.equalIn (k+1) t x y).run P w= .ok b w)
  (hi: ∀k i l j,¬(x= .int k i/\y= .int l j)) (hs: ∀s u,¬(x= .string s/\y= .string u)) (hf: ∀k i l j,¬(x= .float k i/\y= .float l j)) (hcx: ∀k i j l m p,¬(x= .complex k i j/\y= .complex l m p)) (hop:op= .eql\/op= .neq):
  (binOp op t x y).run P w= .ok (.bool (nres op b)) w:=by
 have h1:(Op.equal t x y).run P w= .ok b w:=h 9999
 rcases hop with rfl | rfl
 ·cases x<;>cases y<;>first
   | (exfalso;exact hi _ _ _ _ ⟨rfl,rfl⟩)
   | (exfalso;exact hs _ _ ⟨rfl,rfl⟩)
   | (exfalso;exact hf _ _ _ _ ⟨rfl,rfl⟩)
   | (exfalso;exact hcx _ _ _ _ _ _ ⟨rfl,rfl⟩)
   | (simp only [binOp,Sem.run_bind,h1,Result.andThen_ok,Sem.run_pure,nres];done)
 ·cases x<;>cases y<;>first
   | (exfalso;exact hi _ _ _ _ ⟨rfl,rfl⟩)
   | (exfalso;exact hs _ _ ⟨rfl,rfl⟩)
   | (exfalso;exact hf _ _ _ _ ⟨rfl,rfl⟩)
   | (exfalso;exact hcx _ _ _ _ _ _ ⟨rfl,rfl⟩)
   | (simp only [binOp,Sem.run_bind,h1,Result.andThen_ok,Sem.run_pure,nres];done)
end
theorem z_nl {P:Program} (op:BinOp) (t:TypeId) (x y:Operand) (a b:Value) (w:World) (h1: ¬(a= .nilIface/\b= .nilIface)) (h2: ∀l m,¬(a= .agg l/\b= .agg m)):
  (eqGuard op t x y a b).run P w= .ok () w:=by
 unfold eqGuard
 split
 ·rw [if_neg (by decide)]
  split
  ·exact (h1 ⟨rfl,rfl⟩).elim
  ·exact (h2 _ _ ⟨rfl,rfl⟩).elim
  ·rfl
 ·rw [if_neg (by decide)]
  split
  ·exact (h1 ⟨rfl,rfl⟩).elim
  ·exact (h2 _ _ ⟨rfl,rfl⟩).elim
  ·rfl
 ·rfl
theorem z_jV {P:Program} (op:BinOp) (t:TypeId) (x y:Operand) (a b:Value) (w:World) (h1: ¬(a= .nilIface/\b= .nilIface)) (h2: ∀l m,¬(a= .agg l/\b= .agg m)):
  (binSem op t x y a b).run P w=(binOp op t a b).run P w:=by
 simp [binSem,z_nl op t x y a b w h1 h2]
theorem z_sx {P:Program} {t:TypeId} {op:BinOp} {k:IntKind} {x y:Int} {kk:SV->Prop} (hp:intwp op k x y kk):
  ∃r,(∀n,SV.lt n r)/\kk r/\ ∀(β:Va) (w:World),(binOp op t (.int k x) (.int k y)).run P w= .ok (r.val β) w:=by
 cases op<;>simp only [intwp] at hp
 case add=>obtain ⟨r,rfl,hk⟩:=hp;exact ⟨.c (.v _),fun _=>trivial,hk,fun _ _=>by simp [go_sem,Op.intArith,SV.val,SL.val]⟩
 case sub=>obtain ⟨r,rfl,hk⟩:=hp;exact ⟨.c (.v _),fun _=>trivial,hk,fun _ _=>by simp [go_sem,Op.intArith,SV.val,SL.val]⟩
 case mul=>obtain ⟨r,rfl,hk⟩:=hp;exact ⟨.c (.v _),fun _=>trivial,hk,fun _ _=>by simp [go_sem,Op.intArith,SV.val,SL.val]⟩
 case quo=>obtain ⟨h0,r,rfl,hk⟩:=hp;exact ⟨.c (.v _),fun _=>trivial,hk,fun _ _=>by simp [go_sem,Op.intDiv,SV.val,SL.val,h0]⟩
 case rem=>obtain ⟨h0,r,rfl,hk⟩:=hp;exact ⟨.c (.v _),fun _=>trivial,hk,fun _ _=>by simp [go_sem,Op.intDiv,SV.val,SL.val,h0]⟩
 case and=>obtain ⟨r,rfl,hk⟩:=hp;exact ⟨.c (.v _),fun _=>trivial,hk,fun _ _=>by simp [binOp_and,Op.intBits,bits,SV.val,SL.val]⟩
 case or=>obtain ⟨r,rfl,hk⟩:=hp;exact ⟨.c (.v _),fun _=>trivial,hk,fun _ _=>by simp [binOp_or,Op.intBits,bits,SV.val,SL.val]⟩
 case xor=>obtain ⟨r,rfl,hk⟩:=hp;exact ⟨.c (.v _),fun _=>trivial,hk,fun _ _=>by simp [binOp_xor,Op.intBits,bits,SV.val,SL.val]⟩
 case andNot=>obtain ⟨r,rfl,hk⟩:=hp;exact ⟨.c (.v _),fun _=>trivial,hk,fun _ _=>by simp [binOp_andNot,Op.intBits,bits,SV.val,SL.val]⟩
 case eql=>exact ⟨.c (.v _),fun _=>trivial,hp,fun _ _=>by simp only [binOp_eql,SV.val,SL.val,Sem.run_pure];congr 2⟩
 case neq=>
  refine ⟨.c (.v _),fun _=>trivial,hp,fun _ _=>?_⟩
  simp only [binOp_neq,SV.val,SL.val,Sem.run_pure]
  congr 2
 case lss=>exact ⟨.c (.v _),fun _=>trivial,hp,fun _ _=>by simp only [binOp_lss,SV.val,SL.val,Sem.run_pure]⟩
 case leq=>exact ⟨.c (.v _),fun _=>trivial,hp,fun _ _=>by simp only [binOp_leq,SV.val,SL.val,Sem.run_pure]⟩
 case gtr=>exact ⟨.c (.v _),fun _=>trivial,hp,fun _ _=>by simp only [binOp_gtr,SV.val,SL.val,Sem.run_pure]⟩
 case geq=>exact ⟨.c (.v _),fun _=>trivial,hp,fun _ _=>by simp only [binOp_geq,SV.val,SL.val,Sem.run_pure]⟩
theorem z_pJ {P:Program} {t:TypeId} {op:BinOp} {k l:IntKind} {x y:Int} {kk:SV->Prop} (hp:shwp op k x y kk):
  ∃r,(∀n,SV.lt n r)/\kk r/\ ∀(β:Va) (w:World),(binOp op t (.int k x) (.int l y)).run P w= .ok (r.val β) w:=by
 cases op<;>simp only [shwp] at hp
 case shl=>obtain ⟨h0,r,rfl,hk⟩:=hp;exact ⟨.c (.v _),fun _=>trivial,hk,fun _ _=>by simp [binOp_shl,Op.shift,SV.val,SL.val,Int.not_lt.2 h0]⟩
 case shr=>obtain ⟨h0,r,rfl,hk⟩:=hp;exact ⟨.c (.v _),fun _=>trivial,hk,fun _ _=>by simp [binOp_shr,Op.shift,SV.val,SL.val,Int.not_lt.2 h0]⟩
theorem z_sc {P:Program} {t:TypeId} {op:BinOp} {x y:ByteArray} {kk:SV->Prop} (hp:strwp op x y kk):
  ∃r,(∀n,SV.lt n r)/\kk r/\ ∀(β:Va) (w:World),(binOp op t (.string x) (.string y)).run P w= .ok (r.val β) w:=by
 cases op<;>simp only [strwp] at hp
 case add=>
  obtain ⟨h0,hk⟩:=hp
  refine ⟨.c (.v _),fun _=>trivial,hk,fun _ _=>?_⟩
  have: ¬(((x.size+y.size:Nat):Int)>IntKind.i64.max):=by simp only [maxLen] at h0;simp only [IntKind.max,IntKind.signed,IntKind.bits];omega
  simp only [binOp_string_add,Op.stringOp,SV.val,SL.val,if_neg this,Sem.run_pure]
 case eql=>exact ⟨.c (.v _),fun _=>trivial,hp,fun _ _=>by simp only [binOp_string_eql,SV.val,SL.val,Sem.run_pure,z_fD]⟩
 case neq=>exact ⟨.c (.v _),fun _=>trivial,hp,fun _ _=>by simp only [binOp_string_neq,SV.val,SL.val,Sem.run_pure,z_fD]⟩
 case lss=>exact ⟨.c (.v _),fun _=>trivial,hp,fun _ _=>by simp only [binOp,Op.stringOp,SV.val,SL.val,Sem.run_pure]⟩
 case leq=>exact ⟨.c (.v _),fun _=>trivial,hp,fun _ _=>by simp only [binOp,Op.stringOp,SV.val,SL.val,Sem.run_pure,z_fD]⟩
 case gtr=>exact ⟨.c (.v _),fun _=>trivial,hp,fun _ _=>by simp only [binOp,Op.stringOp,SV.val,SL.val,Sem.run_pure,z_fD]⟩
 case geq=>exact ⟨.c (.v _),fun _=>trivial,hp,fun _ _=>by simp only [binOp,Op.stringOp,SV.val,SL.val,Sem.run_pure]⟩
theorem z_sq {op:BinOp} {b:Bool} {kk:SV->Prop} (hp:nilwp op b kk):(op= .eql\/op= .neq)/\kk (bl (nres op b)):=by
 cases op<;>simp only [nilwp] at hp
 ·exact ⟨.inl rfl,hp⟩
 ·exact ⟨.inr rfl,hp⟩
theorem z_rX {P:Program} {t:TypeId} {i:TI} (ti:TiOk P t i) {op:BinOp} {s u:SV} {kk:SV->Prop} (x y:Operand) (hp:binwp i.desc op s u kk):
  ∃r,(∀n,SV.lt n r)/\kk r/\ ∀(β:Va) (w:World),(binSem op t x y (s.val β) (u.val β)).run P w= .ok (r.val β) w:=by
 have nilcase: ∀(b:Bool) (va vb:Va->Value),nilwp op b kk->(∀β k w,(Op.equalIn (k+1) t (va β) (vb β)).run P w= .ok b w)->
   (∀β k i,va β≠ .int k i)->(∀β s,va β≠ .string s)->(∀β k i,va β≠ .float k i)->(∀β k i j,va β≠ .complex k i j)->(∀β,va β≠ .nilIface)->(∀β l,va β≠ .agg l)->
   ∃r,(∀n,SV.lt n r)/\kk r/\ ∀(β:Va) (w:World),(binSem op t x y (va β) (vb β)).run P w= .ok (r.val β) w:=by
  intro b va vb hn he h1 h2 h3 h4 h5 h6
  obtain ⟨hop,hk⟩:=z_sq hn
  refine ⟨.c (.v _),fun _=>trivial,hk,fun β w=>?_⟩
  rw [z_jV op t x y _ _ w (fun q=>h5 β q.1) (fun l m q=>h6 β l q.1)]
  exact z_wX _ _ b op w (fun k=>he β k w) (fun k i l j q=>h1 β k i q.1) (fun s u q=>h2 β s q.1) (fun k i l j q=>h3 β k i q.1) (fun k i j l m p q=>h4 β k i j q.1) hop
 unfold binwp at hp
 split at hp
 ·rename_i k xx l yy
  have hpl: ∀β w,(binSem op t x y ((SV.c (.v (.int k xx))).val β) ((SV.c (.v (.int l yy))).val β)).run P w=(binOp op t (.int k xx) (.int l yy)).run P w:=
   fun β w=>z_jV op t x y _ _ w (fun q=>by cases q.1) (fun _ _ q=>by cases q.1)
  split at hp
  ·obtain ⟨r,h1,h2,h3⟩:=z_pJ (P:=P) (t:=t) (l:=l) hp
   exact ⟨r,h1,h2,fun β w=>by rw [hpl];exact h3 β w⟩
  ·obtain ⟨r,h1,h2,h3⟩:=z_pJ (P:=P) (t:=t) (l:=l) hp
   exact ⟨r,h1,h2,fun β w=>by rw [hpl];exact h3 β w⟩
  ·split at hp
   ·rename_i he
    obtain rfl:=z_yD he
    obtain ⟨r,h1,h2,h3⟩:=z_sx (P:=P) (t:=t) hp
    exact ⟨r,h1,h2,fun β w=>by rw [hpl];exact h3 β w⟩
   ·exact hp.elim
 ·rename_i xx yy
  obtain ⟨r,h1,h2,h3⟩:=z_sc (P:=P) (t:=t) hp
  exact ⟨r,h1,h2,fun β w=>by rw [z_jV op t x y _ _ w (fun q=>by cases q.1) (fun _ _ q=>by cases q.1)];exact h3 β w⟩
 ·split at hp
  ·rename_i hd
   have hu:=fun w=>run_underlying (P:=P) (ti.real (d:= .pointer _) hd rfl) w
   exact nilcase _ _ _ hp (fun β k w=>by simp [Op.equalIn,hu,SV.val,SL.val]) (fun _ _ _ q=>by cases q) (fun _ _ q=>by cases q) (fun _ _ _ q=>by cases q) (fun _ _ _ _ q=>by cases q) (fun _ q=>by cases q) (fun _ _ q=>by cases q)
  ·exact hp.elim
 ·split at hp
  ·rename_i p _ _ hd
   have hu:=fun w=>run_underlying (P:=P) (ti.real (d:= .pointer _) hd rfl) w
   exact nilcase _ _ _ hp (fun β k w=>by cases p<;>simp [Op.equalIn,hu,SV.val,SL.val]) (fun _ _ _ q=>by cases q) (fun _ _ q=>by cases q) (fun _ _ _ q=>by cases q) (fun _ _ _ _ q=>by cases q) (fun _ q=>by cases q) (fun _ _ q=>by cases q)
  ·exact hp.elim
 ·split at hp
  ·rename_i p _ _ _ _ _ _ hd
   have hu:=fun w=>run_underlying (P:=P) (ti.real (d:= .slice _) hd rfl) w
   exact nilcase _ _ _ hp (fun β k w=>by cases p<;>simp [Op.equalIn,hu,SV.val,SL.val]) (fun _ _ _ q=>by cases q) (fun _ _ q=>by cases q) (fun _ _ _ q=>by cases q) (fun _ _ _ _ q=>by cases q) (fun _ q=>by cases q) (fun _ _ q=>by cases q)
  ·exact hp.elim
 ·split at hp
  ·rename_i p _ _ _ hd
   have hu:=fun w=>run_underlying (P:=P) (ti.real (d:= .map _ _) hd rfl) w
   exact nilcase _ _ _ hp (fun β k w=>by cases p<;>simp [Op.equalIn,hu,SV.val,SL.val]) (fun _ _ _ q=>by cases q) (fun _ _ q=>by cases q) (fun _ _ _ q=>by cases q) (fun _ _ _ _ q=>by cases q) (fun _ q=>by cases q) (fun _ _ q=>by cases q)
  ·exact hp.elim
 ·split at hp
  ·rename_i hd
   have hu:=fun w=>run_underlying (P:=P) (ti.real (d:= .bool) hd rfl) w
   exact nilcase _ _ _ hp (fun β k w=>by simp [Op.equalIn,hu,SV.val,SL.val]) (fun _ _ _ q=>by cases q) (fun _ _ q=>by cases q) (fun _ _ _ q=>by cases q) (fun _ _ _ _ q=>by cases q) (fun _ q=>by cases q) (fun _ _ q=>by cases q)
  ·exact hp.elim
 ·exact hp.elim
theorem z_tJ {P:Program} {op:UnOp} {s:SV} {kk:SV->Prop} (hp:unwp op s kk):
  ∃r,(∀n,SV.lt n r)/\kk r/\ ∀(β:Va) (w:World),(Op.unary op (s.val β)).run P w= .ok (r.val β) w:=by
 unfold unwp at hp
 split at hp
 ·exact ⟨.c (.v _),fun _=>trivial,hp,fun β w=>by simp [Op.unary,SV.val,SL.val]⟩
 ·obtain ⟨r,rfl,hk⟩:=hp;exact ⟨.c (.v _),fun _=>trivial,hk,fun β w=>by simp [Op.unary,Op.intArith,SV.val,SL.val]⟩
 ·obtain ⟨r,rfl,hk⟩:=hp;exact ⟨.c (.v _),fun _=>trivial,hk,fun β w=>by simp [Op.unary,Op.intBits,bits,SV.val,SL.val]⟩
 ·exact hp.elim
theorem z_bk (b o j:Nat):(⟨b,o,none⟩:Addr).add j=⟨b,o+j,none⟩:=by
 unfold Addr.add
 split
 ·rename_i h;subst h;rfl
 ·rfl
theorem z_en {α:Type}: ∀(k:Nat) (l:List α) (o:Nat) (r:List α),takeAt l o k=some r->r.length=k/\ ∀j u,r[j]?=some u->l[o+j]?=some u
 | 0,l,o,r,h=>by
  simp only [takeAt,Option.some.injEq] at h
  subst h
  exact ⟨rfl,fun j u hj=>by simp at hj⟩
 | k+1,l,o,r,h=>by
  simp only [takeAt] at h
  split at h
  ·cases h
  ·rename_i x hx
   split at h
   ·cases h
   ·rename_i r' hr
    simp only [Option.some.injEq] at h
    subst h
    obtain ⟨h1,h2⟩:=z_en k l (o+1) r' hr
    refine ⟨by simp [h1],fun j u hj=>?_⟩
    cases j with
    | zero=>
     simp only [List.getElem?_cons_zero,Option.some.injEq] at hj
     subst hj
     rw [z_aX] at hx
     simpa using hx
    | succ j=>
     have:=h2 j u (by simpa using hj)
     rw [<-this];congr 1;omega
theorem Sat.row {cx:Cx} {β:Va} {n:Nat} {H:List Bk} {F:List Fact} {w:World} (h:Sat cx β n H F w) {i:Nat} {cs:List SL} (hc:cellsAt H i=some cs) {o k:Nat} {xs:List SL} (hx:takeAt cs o k=some xs):
  ∀j u,(xs.map (SL.val β))[j]?=some u->w.cell? ((⟨β i,o,none⟩:Addr).add j)=some u:=by
 intro j u hj
 simp only [List.getElem?_map,Option.map_eq_some_iff] at hj
 obtain ⟨x,hxj,rfl⟩:=hj
 rw [z_bk]
 exact h.cell hc (o+j) (by rw [z_aX];exact (z_en k cs o xs hx).2 j x hxj)
theorem z_jy {P:Program} {t:TypeId} {i:TI} (ti:TiOk P t i) (hg:i.agg=false) (w:World) (ad:Addr) (x:Value) (h:w.cell? ad=some x):(loadVar t ad).run P w= .ok x w:=by
 simp [loadVar,ti.run_agg,hg,run_load,h]
theorem z_jO {P:Program} {t:TypeId} {i:TI} (ti:TiOk P t i) (hg:i.agg=true) (w:World) (ad:Addr) (xs:List Value) (hl:xs.length=i.size) (h: ∀j u,xs[j]?=some u->w.cell? (ad.add j)=some u):
  (loadVar t ad).run P w= .ok (.agg xs.toArray) w:=by
 have h1:=run_loadCells_list (P:=P) (w:=w) ad xs h
 rw [hl] at h1
 simp [loadVar,ti.run_agg,hg,ti.run_size,h1]
theorem z_tB {cx:Cx} (g:Good cx) {n:Nat} {H:List Bk} {F:List Fact} {t:TypeId} {s:SV} {kk:SV->Prop} (hs:s.lt n) (hp:ldwp cx n H F t s kk) {β:Va} {w0:World} (h0:Sat cx β n H F w0):
  ∃r,SV.lt n r/\kk r/\ ∀w,Sat cx β n H F w->(Instr.loadAt t (s.val β)).run cx.P w= .ok (r.val β) w:=by
 unfold ldwp at hp
 split at hp
 ·rename_i i hi
  have ti:=g.ti hi
  split at hp
  ·rename_i id o hg
   split at hp
   ·rename_i cs hc
    split at hp
    ·rename_i x hx
     obtain ⟨b,hb,hbi,hbc⟩:=z_hY hc
     refine ⟨.c x,?_,hp,fun w hw=>?_⟩
     ·have:=(h0.ltb b hb).2 x (by rw [hbc];rw [z_aX] at hx;exact List.mem_of_getElem? hx)
      exact this
     ·simp only [SV.val,SL.val,Instr.loadAt,Instr.sureAddr,pure_bind]
      exact z_jy ti hg w _ _ (hw.cell hc o hx)
    ·exact hp.elim
   ·exact hp.elim
  ·rename_i id o hg
   split at hp
   ·rename_i cs hc
    split at hp
    ·rename_i xs hx
     obtain ⟨b,hb,hbi,hbc⟩:=z_hY hc
     refine ⟨.agg xs,?_,hp,fun w hw=>?_⟩
     ·intro x hxm
      obtain ⟨j,hj⟩:=List.getElem?_of_mem hxm
      have:=(z_en _ _ _ _ hx).2 j x hj
      exact (h0.ltb b hb).2 x (by rw [hbc];exact List.mem_of_getElem? this)
     ·simp only [SV.val,SL.val,Instr.loadAt,Instr.sureAddr,pure_bind]
      exact z_jO ti hg w _ _ (by rw [List.length_map];exact (z_en _ _ _ _ hx).1) (hw.row hc hx)
    ·exact hp.elim
   ·exact hp.elim
  ·rename_i a hg
   obtain ⟨x,hx,hk⟩:=hp
   refine ⟨.c (.v x),trivial,hk,fun w hw=>?_⟩
   simp only [SV.val,SL.val,Instr.loadAt,Instr.sureAddr,pure_bind]
   exact z_jy ti hg w _ _ (hx β w hw)
  ·rename_i a hg
   obtain ⟨xs,hl,hx,hk⟩:=hp
   refine ⟨.agg (xs.map SL.v),?_,hk,fun w hw=>?_⟩
   ·intro y hy
    obtain ⟨z,_,rfl⟩:=List.mem_map.1 hy
    trivial
   ·simp only [SV.val,SL.val,Instr.loadAt,Instr.sureAddr,pure_bind,List.map_map]
    have:List.map (SL.val β∘SL.v) xs=xs:=by simp [Function.comp_def,SL.val]
    rw [this]
    exact z_jO ti hg w _ _ hl (hx β w hw)
  ·exact hp.elim
 ·exact hp.elim
theorem z_gG {cx:Cx} {β:Va} {n:Nat} {env:Env} {H:List Bk} {F:List Fact} {a:Act} {w:World} (h:Inv cx β n env H F a w) {x:Option Operand} {i:Option Int} (hi:optInt env x=some i):
  (x=none/\i=none)\/ ∃k j,x.map a.eval=some (.int k j)/\i=some j:=by
 cases x with
 | none=>simp only [optInt,Option.some.injEq] at hi;exact .inl ⟨rfl,hi.symm⟩
 | some x=>
  simp only [optInt] at hi
  split at hi
  ·rename_i k j he
   simp only [Option.some.injEq] at hi
   exact .inr ⟨k,j,by rw [Option.map_some,(h.ev he).1];rfl,hi.symm⟩
  ·cases hi
theorem z_oS {P:Program} {w:World} {k:IntKind} {j:Int} {l y:Nat} (hj:j=(l:Int)) (hl:l<=y) (code:BoundsCode):(Instr.sliceBound (.int k j) y code).run P w= .ok l w:=by
 subst hj
 simp [Instr.sliceBound,asIntOf,hl]
theorem z_kz {P:Program} {w:World} {cx:Cx} {β:Va} {n:Nat} {env:Env} {H:List Bk} {F:List Fact} {a:Act} {u:World} (h:Inv cx β n env H F a u) {lo hi mx:Option Operand} {ilo ihi imx:Option Int}
    (hlo:optInt env lo=some ilo) (hhi:optInt env hi=some ihi) (hmx:optInt env mx=some imx) {len cap m hh l:Nat} (b:Bool)
    (hm:isNat imx cap m) (hh':isNat ihi len hh) (hl:isNat ilo 0 l) (h1:m<=cap) (h2:hh<=m) (h3:l<=hh) (hno:mx.isSome=true->hi.isSome=true):
    (Instr.sliceBounds b len cap (lo.map a.eval) (hi.map a.eval) (mx.map a.eval)).run P w= .ok (l,hh,m) w:=by
  have b1: ∀k c,(Instr.sliceBound (.int k (l:Int)) hh c).run P w= .ok l w:=fun k c=>z_oS rfl h3 c
  have b2: ∀k c,(Instr.sliceBound (.int k (hh:Int)) m c).run P w= .ok hh w:=fun k c=>z_oS rfl h2 c
  have b3: ∀k c,(Instr.sliceBound (.int k (m:Int)) cap c).run P w= .ok m w:=fun k c=>z_oS rfl h1 c
  rcases z_gG h hmx with ⟨rfl,rfl⟩ | ⟨km,jm,em,rfl⟩<;>rcases z_gG h hhi with ⟨rfl,rfl⟩ | ⟨kh,jh,eh,rfl⟩<;>rcases z_gG h hlo with ⟨rfl,rfl⟩ | ⟨kl,jl,el,rfl⟩<;>
    simp only [isNat] at hm hh' hl<;>
    (first
      | (exfalso;cases mx<;>simp at em hno;done)
      | (try subst hm
         try subst hh'
         try subst hl
         try simp only [*]
         simp [Instr.sliceBounds, *]))
end Go.Proofs.YtfomhhkoamapmaaGreatDoor.Sx
namespace Go.Proofs.YtfomhhkoamapmaaGreatDoor.Sx
open Go
section
variable {cx:Cx} {β:Va} {n:Nat} {env:Env} {H:List Bk} {F:List Fact} {a:Act} {u:World} {kk:SV->Prop}
theorem z_tN (g:Good cx) (h:Inv cx β n env H F a u) {t:TypeId} {s:SV} {lo hi mx:Option Operand} (hno:mx.isSome=true->hi.isSome=true) (hp:slwp cx env t s lo hi mx kk):
  ∃r,SV.lt n r/\kk r/\ ∀w,(Instr.sliceAt t (s.val β) (lo.map a.eval) (hi.map a.eval) (mx.map a.eval)).run cx.P w= .ok (r.val β) w:=by
 unfold slwp at hp
 split at hp
 ·rename_i i ilo ihi imx hti hlo hhi hmx
  have ti:=g.ti hti
  split at hp
  ·rename_i e A m c hd
   split at hp
   ·rename_i ie hie
    have tie:=g.ti hie
    obtain ⟨m',hh,l,p,q,A',hm,hh',hl,h1,h2,h3,rfl,rfl,rfl,hk⟩:=hp
    refine ⟨.c (.v _),trivial,hk,fun w=>?_⟩
    have hb:=z_kz (P:=cx.P) (w:=w) h hlo hhi hmx true hm hh' hl h1 h2 h3 hno
    have hu:=run_underlying (ti.real (d:= .slice _) hd rfl) w
    simp [Instr.sliceAt,Instr.slice,hu,SV.val,SL.val,hb,tie.run_size,cutA]
   ·exact hp.elim
  ·rename_i arr ad hd
   split at hp
   ·rename_i ia hia
    have tia:=g.ti hia
    split at hp
    ·rename_i k e hda
     split at hp
     ·rename_i ie hie
      have tie:=g.ti hie
      obtain ⟨m',hh,l,p,q,A',hm,hh',hl,h1,h2,h3,rfl,rfl,rfl,hk⟩:=hp
      refine ⟨.c (.v _),trivial,hk,fun w=>?_⟩
      have hb:=z_kz (P:=cx.P) (w:=w) h hlo hhi hmx false hm hh' hl h1 h2 h3 hno
      have hu:=run_underlying (ti.real (d:= .pointer _) hd rfl) w
      have hu2:=run_underlying (tia.real (d:= .array _ _) hda rfl) w
      have hA:(asAddr (.pointer (some ad))).run cx.P w= .ok ad w:=rfl
      simp only [Instr.sliceAt,Instr.sureAddr,pure_bind,Instr.slice,Sem.run_bind,hu,SV.val,SL.val,Result.andThen_ok,hu2,hA,hb,tie.run_size,Sem.run_pure,cutA]
      split<;>rfl
     ·exact hp.elim
    ·exact hp.elim
   ·exact hp.elim
  ·rename_i k e ad hd
   split at hp
   ·rename_i ie hie
    have tie:=g.ti hie
    obtain ⟨m',hh,l,p,q,A',hm,hh',hl,h1,h2,h3,rfl,rfl,rfl,hk⟩:=hp
    refine ⟨.c (.v _),trivial,hk,fun w=>?_⟩
    have hb:=z_kz (P:=cx.P) (w:=w) h hlo hhi hmx false hm hh' hl h1 h2 h3 hno
    have hu:=run_underlying (ti.real (d:= .array _ _) hd rfl) w
    simp only [Instr.sliceAt,Instr.sureAddr,pure_bind,Sem.run_bind,hu,SV.val,SL.val,Result.andThen_ok,hb,tie.run_size,Sem.run_pure,cutA]
    split<;>rfl
   ·exact hp.elim
  ·rename_i x hd
   split at hp
   ·obtain ⟨hh,l,hh',hl,h2,h3,hk⟩:=hp
    refine ⟨.c (.v _),trivial,hk,fun w=>?_⟩
    have hmx0:mx=none:=by
     rcases z_gG h hmx with ⟨h1,_⟩ | ⟨_,_,_,h1⟩
     ·exact h1
     ·cases h1
    subst hmx0
    have hb:=z_kz (P:=cx.P) (w:=w) (cap:=x.size) (m:=x.size) h hlo hhi hmx false rfl hh' hl (Nat.le_refl _) h2 h3 hno
    have hu:=run_underlying (ti.real (d:= .string) hd rfl) w
    simp only [Option.map_none] at hb
    simp [Instr.sliceAt,Instr.slice,hu,SV.val,SL.val,hb]
   ·exact hp.elim
  ·exact hp.elim
 ·exact hp.elim
theorem z_mu (a:Addr) (i j:Nat):(a.add i).add j=a.add (i+j):=by
 unfold Addr.add
 by_cases hi:i=0<;>by_cases hj:j=0<;>simp [hi,hj,Nat.add_assoc]
theorem z_tU (g:Good cx) {t:TypeId} {s:SV} (hs:s.lt n) {f:Nat} (hp:fawp cx t s f kk):
  ∃r,SV.lt n r/\kk r/\ ∀w,(Instr.fieldAt t (s.val β) f).run cx.P w= .ok (r.val β) w:=by
 unfold fawp at hp
 split at hp
 ·rename_i i hi
  have ti:=g.ti hi
  split at hp
  ·rename_i hd
   obtain ⟨fs,hst,hfo⟩:=ti.struct hd
   split at hp
   ·rename_i off size hf
    have hff:=ti.fields
    rw [hfo] at hff
    rw [z_aX] at hf
    have hfm:(i.fields.map (fun q=>(q.1,some q.2)))[f]?=some (off,some size):=by simp [hf]
    rw [<-hff] at hfm
    simp only [List.getElem?_map,Option.map_eq_some_iff,Prod.mk.injEq] at hfm
    obtain ⟨fd,hfd,rfl,x,hx,hxs⟩:=hfm
    have hfd':fs[f]?=some fd:=by simpa using hfd
    split at hp
    ·rename_i hz
     have hne: ¬size=0:=by intro q;subst q;cases hz
     have place: ∀(ad:Addr) (w:World),(fieldPlace ad fd).run cx.P w= .ok (ad.add fd.offset) w:=fun ad w=>by
      have:(sizeOf fd.type).run cx.P w= .ok size w:=by simp [sizeOf,typeInfo,hx,hxs]
      simp [fieldPlace,this,hne]
     split at hp
     ·rename_i id o
      refine ⟨.c (.p id (o+fd.offset)),hs,hp,fun w=>?_⟩
      have hu:=run_underlying hst w
      simp [Instr.fieldAt,hu,hfd',SV.val,SL.val,Instr.sureAddr,place,z_bk]
     ·rename_i ad
      refine ⟨.c (.v _),trivial,hp,fun w=>?_⟩
      have hu:=run_underlying hst w
      simp [Instr.fieldAt,hu,hfd',SV.val,SL.val,Instr.sureAddr,place]
     ·exact hp.elim
    ·exact hp.elim
   ·exact hp.elim
  ·exact hp.elim
 ·exact hp.elim
theorem z_tQ (g:Good cx) {t:TypeId} {s v:SV} (hs:s.lt n) (hp:ixwp cx t s v kk):
  ∃r,SV.lt n r/\kk r/\ ∀w,(Instr.indexAt t (s.val β) (v.val β)).run cx.P w= .ok (r.val β) w:=by
 unfold ixwp at hp
 split at hp
 ·rename_i i hi
  have ti:=g.ti hi
  split at hp
  ·rename_i e A m c k x hd
   split at hp
   ·rename_i ie hie
    have tie:=g.ti hie
    obtain ⟨ad,j,rfl,rfl,hj,hk⟩:=hp
    refine ⟨.c (.v _),trivial,hk,fun w=>?_⟩
    have hu:=run_underlying (ti.real (d:= .slice _) hd rfl) w
    simp [Instr.indexAt,asIntOf,hu,SV.val,SL.val,tie.run_size,hj]
   ·exact hp.elim
  ·rename_i m e id o k x hd
   split at hp
   ·rename_i ie hie
    have tie:=g.ti hie
    obtain ⟨j,rfl,hj,hk⟩:=hp
    refine ⟨.c (.p id (o+j*ie.size)),hs,hk,fun w=>?_⟩
    have hu:=run_underlying (ti.real (d:= .array _ _) hd rfl) w
    simp [Instr.indexAt,asIntOf,hu,SV.val,SL.val,tie.run_size,hj,Instr.sureAddr,z_bk]
   ·exact hp.elim
  ·rename_i m e ad k x hd
   split at hp
   ·rename_i ie hie
    have tie:=g.ti hie
    obtain ⟨j,rfl,hj,hk⟩:=hp
    refine ⟨.c (.v _),trivial,hk,fun w=>?_⟩
    have hu:=run_underlying (ti.real (d:= .array _ _) hd rfl) w
    simp [Instr.indexAt,asIntOf,hu,SV.val,SL.val,tie.run_size,hj,Instr.sureAddr]
   ·exact hp.elim
  ·exact hp.elim
 ·exact hp.elim
theorem z_ua (g:Good cx) {t:TypeId} {s v:SV} (hs:s.lt n) (hp:ivwp cx t s v kk):
  ∃r,SV.lt n r/\kk r/\ ∀w,(Instr.index t (s.val β) (v.val β)).run cx.P w= .ok (r.val β) w:=by
 unfold ivwp at hp
 split at hp
 ·rename_i i hi
  have ti:=g.ti hi
  split at hp
  ·rename_i x k y hd
   obtain ⟨j,b,rfl,hb,hk⟩:=hp
   refine ⟨.c (.v _),trivial,hk,fun w=>?_⟩
   have hu:=run_underlying (ti.real (d:= .string) hd rfl) w
   have hb':x[j]?=some b:=by
    have hlt:j<x.size:=by have:=(List.getElem?_eq_some_iff.1 hb).1;simpa using this
    have h2:=(List.getElem?_eq_some_iff.1 hb).2
    rw [getElem?_pos x j hlt]
    exact congrArg some (by rw [<-h2];rfl)
   simp [Instr.index,asIntOf,hu,SV.val,SL.val,hb',byte]
  ·rename_i m e xs k y hd
   split at hp
   ·rename_i ie hie
    have tie:=g.ti hie
    split at hp
    ·rename_i hag
     obtain ⟨j,z,rfl,hj,hz,hk⟩:=hp
     refine ⟨.c z,hs z (List.mem_of_getElem? hz),hk,fun w=>?_⟩
     have hu:=run_underlying (ti.real (d:= .array _ _) hd rfl) w
     simp [Instr.index,asIntOf,hu,SV.val,SL.val,tie.run_size,hj,part,tie.run_agg,hag,hz]
    ·rename_i hag
     obtain ⟨j,zs,rfl,hj,rfl,hk⟩:=hp
     refine ⟨.agg _,fun z hz=>hs z (List.mem_of_mem_drop (List.mem_of_mem_take hz)),hk,fun w=>?_⟩
     have hu:=run_underlying (ti.real (d:= .array _ _) hd rfl) w
     simp [Instr.index,asIntOf,hu,SV.val,SL.val,tie.run_size,hj,part,tie.run_agg,hag]
   ·exact hp.elim
  ·exact hp.elim
 ·exact hp.elim
theorem z_tO {s:SV} {ix:Nat} (hp:exwp s ix kk): ∃r,SV.lt n r/\kk r/\ ∀w,(Instr.extract (s.val β) ix).run cx.P w= .ok (r.val β) w:=by
 unfold exwp at hp
 split at hp
 ·rename_i vs
  split at hp
  ·rename_i x hx
   refine ⟨ofValue x,z_fH _ _,hp,fun w=>?_⟩
   rw [z_aX] at hx
   have:vs[ix]?=some x:=by simpa using hx
   rw [z_et]
   simp [Instr.extract,SV.val,SL.val,this]
  ·exact hp.elim
 ·exact hp.elim
theorem z_tP (g:Good cx) {t:TypeId} {s:SV} (hs:s.lt n) {f:Nat} (hp:fvwp cx t s f kk):
  ∃r,SV.lt n r/\kk r/\ ∀w,(Instr.field t (s.val β) f).run cx.P w= .ok (r.val β) w:=by
 unfold fvwp at hp
 split at hp
 ·rename_i i hi
  have ti:=g.ti hi
  split at hp
  ·rename_i xs off size hd hf
   obtain ⟨fs,hst,hfo⟩:=ti.struct hd
   split at hp
   ·rename_i fty hfd0
    have hff:=ti.fields
    rw [hfo] at hff
    have hft:=ti.ftys
    rw [hfo] at hft
    rw [z_aX] at hf hfd0
    have hfm:(i.fields.map (fun q=>(q.1,some q.2)))[f]?=some (off,some size):=by simp [hf]
    rw [<-hff] at hfm
    simp only [List.getElem?_map,Option.map_eq_some_iff,Prod.mk.injEq] at hfm
    obtain ⟨fd',hfd,rfl,x,hx,hxs⟩:=hfm
    rw [<-hft,List.getElem?_map,hfd] at hfd0
    obtain rfl:=Option.some.inj hfd0
    have hfd':fs[f]?=some fd':=by simpa using hfd
    split at hp
    ·rename_i ig hig
     have tig:=g.ti hig
     split at hp
     ·rename_i hag
      split at hp
      ·rename_i z hz
       rw [z_aX] at hz
       refine ⟨.c z,hs z (List.mem_of_getElem? hz),hp,fun w=>?_⟩
       have hu:=run_underlying hst w
       simp [Instr.field,hu,hfd',SV.val,asAgg,part,tig.run_agg,hag,hz]
      ·exact hp.elim
     ·rename_i hag
      split at hp
      ·rename_i zs hz
       obtain ⟨h1,h2⟩:=z_en _ _ _ _ hz
       refine ⟨.agg zs,fun z hzm=>?_,hp,fun w=>?_⟩
       ·obtain ⟨j,hj⟩:=List.getElem?_of_mem hzm
        exact hs z (List.mem_of_getElem? (h2 j z hj))
       ·have hu:=run_underlying hst w
        have hsz:(sizeOf fd'.type).run cx.P w= .ok size w:=by simp [sizeOf,typeInfo,hx,hxs]
        have hex:((xs.map (SL.val β)).drop fd'.offset).take size=zs.map (SL.val β):=by
         refine List.ext_getElem? fun j=>?_
         rw [List.getElem?_take]
         split
         ·rename_i hjs
          rw [List.getElem?_drop,List.getElem?_map,List.getElem?_map]
          have hjl:j<zs.length:=by omega
          rw [List.getElem?_eq_getElem hjl]
          rw [h2 j zs[j] (List.getElem?_eq_getElem hjl)]
         ·rw [List.getElem?_eq_none];simp;omega
        simp [Instr.field,hu,hfd',SV.val,asAgg,part,tig.run_agg,hag,hsz,hex]
      ·exact hp.elim
    ·exact hp.elim
   ·exact hp.elim
  ·exact hp.elim
 ·exact hp.elim
theorem z_mX {s:SV} {ys:List SL} (h:flat s=some ys) (β:Va):(s.val β).cells.toList=ys.map (SL.val β):=by
 unfold flat at h
 split at h
 ·obtain rfl:=Option.some.inj h;rfl
 ·rename_i x
  split at h
  ·cases h
  ·cases h
  ·rename_i hna hnt
   obtain rfl:=Option.some.inj h
   cases x<;>first | rfl | exact (hna _ rfl).elim
 ·obtain rfl:=Option.some.inj h;simp [SV.val,Value.cells]
 ·obtain rfl:=Option.some.inj h;simp [SV.val,Value.cells,SL.val]
 ·cases h
theorem z_r2 {s:SV} {ys:List SL} (h:flat s=some ys) {n:Nat} (hs:s.lt n): ∀y∈ys,y.lt n:=by
 unfold flat at h
 split at h
 ·obtain rfl:=Option.some.inj h;intro y hy;simp at hy;subst hy;exact hs
 ·split at h
  ·cases h
  ·cases h
  ·obtain rfl:=Option.some.inj h;intro y hy;simp at hy;subst hy;trivial
 ·obtain rfl:=Option.some.inj h;exact hs
 ·obtain rfl:=Option.some.inj h;intro y hy;simp at hy;subst hy;trivial
 ·cases h
theorem z_jZ: ∀(ys:List Value) (k:Nat) (cs:Array Value) (off:Nat),(ys.zipIdx k).foldl (fun cs (q:Value×Nat)=>cs.setIfInBounds (off+q.2) q.1) cs=(putAll cs.toList (off+k) ys).toArray
 | [],k,cs,off=>by simp [putAll]
 | y::ys,k,cs,off=>by
  rw [List.zipIdx_cons,List.foldl_cons,z_jZ ys (k+1),putAll,z_aT]
  simp [Nat.add_assoc]
theorem z_gC {env:Env} (h:Inv cx β n env H F a u) {fields:List (Nat×Nat)} {kk:List SL->Prop}: ∀(parts:List (Nat×Operand)) (cs:List SL),(∀x∈cs,x.lt n)->fillwp env fields cs parts kk->
  ∃r:List SL,(∀x∈r,x.lt n)/\kk r/\Instr.fill (fields.toArray[·]?) (cs.map (SL.val β)).toArray (parts.map fun q=>(q.1,a.eval q.2))=some (r.map (SL.val β)).toArray
 | [],cs,hc,hp=>⟨cs,hc,hp,rfl⟩
 | (i,x)::r,cs,hc,hp=>by
  simp only [fillwp] at hp
  split at hp
  ·rename_i off size s hf he
   split at hp
   ·rename_i ys hy
    split at hp
    ·rename_i h1 h2
     have h1':ys.length=size:=Nat.eq_of_beq_eq_true h1
     have h2':off+ys.length<=cs.length:=Nat.le_of_ble_eq_true h2
     obtain ⟨hev,hlt⟩:=h.ev he
     have hcl:=z_mX hy β
     have hc': ∀x∈putAll cs off ys,x.lt n:=by
      have key: ∀(ys l:List SL) (o:Nat),(∀x∈l,x.lt n)->(∀x∈ys,x.lt n)-> ∀x∈putAll l o ys,x.lt n:=by
       intro ys
       induction ys with
       | nil=>intro l o hl _;exact hl
       | cons y ys ih=>
        intro l o hl hys
        refine ih _ _ (fun x hx=>?_) (fun x hx=>hys x (List.mem_cons_of_mem _ hx))
        rw [z_aT] at hx
        rcases List.mem_or_eq_of_mem_set hx with hx | rfl
        ·exact hl x hx
        ·exact hys _ List.mem_cons_self
      exact key ys cs off hc (z_r2 hy hlt)
     obtain ⟨r',hr1,hr2,hr3⟩:=z_gC h r (putAll cs off ys) hc' hp
     refine ⟨r',hr1,hr2,?_⟩
     have hsz:(s.val β).cells.size=ys.length:=by rw [<-Array.length_toList,hcl,List.length_map]
     rw [z_aX] at hf
     have hf':fields.toArray[i]?=some (off,size):=by simpa using hf
     simp only [List.map_cons,Instr.fill,hf',hev]
     rw [if_neg (by simp only [hsz,List.size_toArray,List.length_map,ne_eq,Bool.or_eq_true,decide_eq_true_eq];omega)]
     rw [<-hr3]
     congr 1
     have h3:=z_jZ ((s.val β).cells.toList) 0 (cs.map (SL.val β)).toArray off
     rw [z_nj]
     rw [hcl] at h3
     simp only [Nat.add_zero] at h3
     rw [<-h3,<-hcl,<-Array.foldl_toList,Array.toList_zipIdx]
    ·exact hp.elim
   ·exact hp.elim
  ·exact hp.elim
theorem z_m5 (size:Nat): ∀(k i j:Nat),j<k->(places size i k)[j]?=some ((i+j)*size,size)
 | 0,_,_,h=>by omega
 | k+1,i,0,_=>by simp [places]
 | k+1,i,j+1,h=>by
  simp only [places,List.getElem?_cons_succ]
  rw [z_m5 size k (i+1) j (by omega),show i+1+j=i+(j+1) by omega]
theorem z_lC (size:Nat): ∀(k i j:Nat),k<=j->(places size i k)[j]?=none
 | 0,_,_,_=>by simp [places]
 | k+1,i,0,h=>by omega
 | k+1,i,j+1,h=>by
  simp only [places,List.getElem?_cons_succ]
  exact z_lC size k (i+1) j (by omega)
theorem z_ob {place place':Nat->Option (Nat×Nat)} (hpl: ∀i q,place i=some q->place' i=some q): ∀(parts:List (Nat×Value)) (cs r:Array Value),Instr.fill place cs parts=some r->Instr.fill place' cs parts=some r
 | [],cs,r,h=>h
 | (i,v)::rest,cs,r,h=>by
  simp only [Instr.fill] at h ⊢
  cases hq:place i with
  | none=>rw [hq] at h;cases h
  | some q=>
   rw [hq] at h
   rw [hpl i q hq]
   obtain ⟨off,size⟩:=q
   simp only at h ⊢
   split
   ·rename_i hc;rw [if_pos hc] at h;cases h
   ·rename_i hc;rw [if_neg hc] at h;exact z_ob hpl rest _ r h
theorem z_ur (g:Good cx) (h:Inv cx β n env H F a u) {t:TypeId} {parts:Array (Nat×Operand)} (hp:buwp cx env t parts kk):
  ∃r,SV.lt n r/\kk r/\ ∀w,(Instr.build t (parts.map fun q=>(q.1,a.eval q.2))).run cx.P w= .ok (r.val β) w:=by
 unfold buwp at hp
 split at hp
 ·rename_i i hi
  have ti:=g.ti hi
  split at hp
  ·rename_i hd
   obtain ⟨fs,hst,hfo⟩:=ti.struct hd
   obtain ⟨r,h1,h2,h3⟩:=z_gC (β:=β) h parts.toList (i.zero.map SL.v) (fun x hx=>by obtain ⟨z,_,rfl⟩:=List.mem_map.1 hx;trivial) hp
   refine ⟨.agg r,h1,h2,fun w=>?_⟩
   obtain ⟨z,hz,hzc⟩:=ti.run_zero w
   have hu:=run_underlying hst w
   have hff:=ti.fields
   rw [hfo] at hff
   have hplaces:(fs.mapM fun f=>do pure (f.offset,<-sizeOf f.type):Sem (Array (Nat×Nat))).run cx.P w= .ok i.fields.toArray w:=by
    have key: ∀(l:List Field) (m:List (Nat×Nat)),l.map (fun f=>(f.offset,cx.P.info? f.type |>.map (·.size)))=m.map (fun q=>(q.1,some q.2))->
      (l.mapM fun f=>do pure (f.offset,<-sizeOf f.type):Sem (List (Nat×Nat))).run cx.P w= .ok m w:=by
     intro l
     induction l with
     | nil=>intro m hm;cases m<;>simp at hm;simp
     | cons f l ih=>
      intro m hm
      cases m with
      | nil=>simp at hm
      | cons q m=>
       simp only [List.map_cons,List.cons.injEq,Prod.mk.injEq,Option.map_eq_some_iff] at hm
       obtain ⟨⟨h1,x,hx,hxs⟩,hm⟩:=hm
       have hs:(sizeOf f.type).run cx.P w= .ok q.2 w:=by simp [sizeOf,typeInfo,hx,hxs]
       simp only [List.mapM_cons,Sem.run_bind,hs,Result.andThen_ok,ih m hm,Sem.run_pure,h1]
    have h4:=key fs.toList i.fields hff
    rw [Array.mapM_eq_mapM_toList]
    simp only [map_eq_pure_bind,Sem.run_bind,h4,Result.andThen_ok,Sem.run_pure]
   have hcs:z.cells=((i.zero.map SL.v).map (SL.val β)).toArray:=by
    apply Array.ext'
    rw [hzc]
    simp [Function.comp_def,SL.val]
   simp only [Instr.build,Sem.run_bind,hz,Result.andThen_ok,hu,hplaces,hcs,Array.toList_map,SV.val]
   rw [h3]
   rfl
  ·rename_i m e hd
   split at hp
   ·rename_i ie hie
    have tie:=g.ti hie
    obtain ⟨r,h1,h2,h3⟩:=z_gC (β:=β) h parts.toList (i.zero.map SL.v) (fun x hx=>by obtain ⟨z,_,rfl⟩:=List.mem_map.1 hx;trivial) hp
    refine ⟨.agg r,h1,h2,fun w=>?_⟩
    obtain ⟨z,hz,hzc⟩:=ti.run_zero w
    have hu:=run_underlying (ti.real (d:= .array _ _) hd rfl) w
    have hcs:z.cells=((i.zero.map SL.v).map (SL.val β)).toArray:=by
     apply Array.ext'
     rw [hzc]
     simp [Function.comp_def,SL.val]
    have h4:Instr.fill (fun i=>some (i*ie.size,ie.size)) ((i.zero.map SL.v).map (SL.val β)).toArray (parts.toList.map fun q=>(q.1,a.eval q.2))=some (r.map (SL.val β)).toArray:=by
     refine z_ob (fun j q hq=>?_) _ _ _ h3
     rcases Nat.lt_or_ge j m with hlt | hge
     ·have:=z_m5 ie.size m 0 j hlt
      simp only [Nat.zero_add] at this
      simp only [List.getElem?_toArray,this] at hq
      exact hq
     ·have:=z_lC ie.size m 0 j hge
      simp only [List.getElem?_toArray,this] at hq
      cases hq
    simp only [Instr.build,Sem.run_bind,hz,Result.andThen_ok,hu,tie.run_size,hcs,Array.toList_map,SV.val]
    rw [h4]
    rfl
   ·exact hp.elim
  ·exact hp.elim
 ·exact hp.elim
end
end Go.Proofs.YtfomhhkoamapmaaGreatDoor.Sx
namespace Go.Proofs.YtfomhhkoamapmaaGreatDoor.Sx
open Go
section
variable {cx:Cx} {β:Va} {n:Nat} {env:Env} {H:List Bk} {F:List Fact} {a:Act} {u:World} {kk:SV->Prop}
theorem z_jB (h:Inv cx β n env H F a u): ∀(xs:List Operand) (l:List SL),capsOf env xs=some l->xs.map a.eval=l.map (SL.val β)/\ ∀x∈l,x.lt n
 | [],l,hl=>by
  simp only [capsOf,Option.some.injEq] at hl
  subst hl
  exact ⟨rfl,fun x hx=>by cases hx⟩
 | x::r,l,hl=>by
  simp only [capsOf] at hl
  split at hl
  ·rename_i y l' he hr
   obtain rfl:=Option.some.inj hl
   obtain ⟨h1,h2⟩:=z_jB h r l' hr
   obtain ⟨h3,h4⟩:=h.ev he
   refine ⟨by simp only [List.map_cons,h1,h3];rfl,fun z hz=>?_⟩
   rcases List.mem_cons.1 hz with rfl | hz
   ·exact h4
   ·exact h2 z hz
  ·cases hl
theorem z_tD (l:List UInt8):(strOfNums (l.map fun x=>(x.toNat:Int)))=⟨l.toArray⟩:=by
 have:(strOfNums (l.map fun x=>(x.toNat:Int))).data.toList=l:=by
  rw [strOfNums_data,List.map_map]
  conv=>rhs;rw [<-List.map_id l]
  refine List.map_congr_left fun x _=>?_
  simp
 cases hx:strOfNums (l.map fun x=>(x.toNat:Int)) with
 | mk d=>
  rw [hx] at this
  simp only at this
  rw [<-this]
theorem z_nW {P:Program} {w:World} {src dst e:TypeId} (hs:P.underlying src=some (.slice e)) (he:P.underlying e=some (.int .u8)) (hd:P.underlying dst=some .string) {A:Option Addr} {m c:Nat} {l:List UInt8}
  (h:Rd 1 A m (l.map byte) w):(convert src dst (.slice A m c)).run P w= .ok (.string ⟨l.toArray⟩) w:=by
 obtain ⟨hl,h1⟩:=h
 simp only [List.length_map,Nat.mul_one] at hl
 rw [run_convert_bytes_string w src dst e A m c hs he hd]
 cases A with
 | none=>
  have:m=0:=by
   rcases Nat.eq_zero_or_pos m with h0 | h0
   ·exact h0
   ·obtain ⟨ad,q,_⟩:=h1 h0;cases q
  subst this
  have:l=[]:=List.eq_nil_of_length_eq_zero hl
  subst this
  simp [Conv.bytesToString]
  rfl
 | some ad=>
  have hc:(loadCells ad m).run P w= .ok (((l.map fun x=>(x.toNat:Int)).map (Value.int .u8)).toArray) w:=by
   have h2:=run_loadCells_list (P:=P) (w:=w) ad (l.map byte) (by
    intro j u hj
    rcases Nat.eq_zero_or_pos m with h0 | h0
    ·rw [h0] at hl
     rw [List.eq_nil_of_length_eq_zero hl] at hj
     simp at hj
    ·obtain ⟨ad',q,h3⟩:=h1 h0
     obtain rfl:=Option.some.inj q
     exact h3 j u hj)
   rw [List.length_map,hl] at h2
   rw [h2,List.map_map]
   rfl
  rw [run_bytesToString w ad m c _ hc,foldl_push_bytes]
  have:=z_tD l
  simp only [strOfNums] at this
  rw [<-this]
  congr 2
  simp [ByteArray.empty,ByteArray.emptyWithCapacity]
  rfl
theorem z_tC (g:Good cx) {src dst:TypeId} {s:SV} (hp:cvwp cx n H F src dst s kk):
  ∃r,SV.lt n r/\kk r/\ ∀w,Sat cx β n H F w->(convert src dst (s.val β)).run cx.P w= .ok (r.val β) w:=by
 unfold cvwp at hp
 split at hp
 ·rename_i i j hi hj
  have ti:=g.ti hi
  have tj:=g.ti hj
  split at hp
  ·rename_i k0 k k1 x hdi hdj
   obtain ⟨r,rfl,hk⟩:=hp
   refine ⟨.c (.v _),trivial,hk,fun w _=>?_⟩
   have h1:=run_underlying (ti.real (d:= .int _) hdi rfl) w
   have h2:=run_underlying (tj.real (d:= .int _) hdj rfl) w
   simp [convert,h1,h2,SV.val,SL.val,Conv.intToInt]
  ·rename_i x hdi hdj
   refine ⟨.c (.v _),trivial,hp,fun w _=>?_⟩
   have h1:=run_underlying (ti.real (d:= .string) hdi rfl) w
   have h2:=run_underlying (tj.real (d:= .string) hdj rfl) w
   simp [convert,h1,h2,SV.val,SL.val]
  ·rename_i e A m c hdi hdj
   split at hp
   ·rename_i ie hie
    have tie:=g.ti hie
    split at hp
    ·rename_i hde
     obtain ⟨l,hr,hk⟩:=hp
     refine ⟨.c (.v _),trivial,hk,fun w hw=>?_⟩
     exact z_nW (ti.real (d:= .slice _) hdi rfl) (tie.real (d:= .int _) hde rfl) (tj.real (d:= .string) hdj rfl) (hr β w hw)
    ·exact hp.elim
   ·exact hp.elim
  ·exact hp.elim
 ·exact hp.elim
theorem z_ue {P:Program} {t:TypeId} {i:TI} (ti:TiOk P t i) (ty:TypeId) (ts:Array TypeId) (hts:ts[0]?=some t) {s:SV} (hp:slen s kk i.desc) (vs:Array Value) (hvs:vs[0]?=some (s.val β)):
  ∃r,SV.lt n r/\kk r/\ ∀w,(Builtin.len_ ts ty vs).run P w= .ok (r.val β) w:=by
 unfold slen at hp
 split at hp
 ·rename_i m _ e hd
  refine ⟨.c (.v _),trivial,hp,fun w=>?_⟩
  have h1:=run_underlying (ti.real (d:= .slice _) hd rfl) w
  simp [Builtin.len_,hts,hvs,h1,SV.val,SL.val,goInt]
 ·rename_i x hd
  refine ⟨.c (.v _),trivial,hp,fun w=>?_⟩
  have h1:=run_underlying (ti.real (d:= .string) hd rfl) w
  simp [Builtin.len_,hts,hvs,h1,SV.val,SL.val,goInt]
 ·exact hp.elim
theorem z_un {P:Program} {t:TypeId} {i:TI} (ti:TiOk P t i) (ty:TypeId) (ts:Array TypeId) (hts:ts[0]?=some t) {s:SV} (hp:scap s kk i.desc) (vs:Array Value) (hvs:vs[0]?=some (s.val β)):
  ∃r,SV.lt n r/\kk r/\ ∀w,(Builtin.cap_ ts ty vs).run P w= .ok (r.val β) w:=by
 unfold scap at hp
 split at hp
 ·rename_i m c e hd
  refine ⟨.c (.v _),trivial,hp,fun w=>?_⟩
  have h1:=run_underlying (ti.real (d:= .slice _) hd rfl) w
  simp [Builtin.cap_,hts,hvs,h1,SV.val,SL.val,goInt]
 ·exact hp.elim
theorem z_tT (n:Nat) (β:Va) (ok:Bool) (r:Option Value) (z:Value):SV.lt n (lkres ok r z)/\(lkres ok r z).val β=(match ok with | true=> .tuple #[r.getD z,.bool r.isSome] | false=>r.getD z):=by
 cases ok
 ·exact ⟨z_fH _ _,z_et _ _⟩
 ·exact ⟨trivial,rfl⟩
theorem z_uc (g:Good cx) {t:TypeId} {s v:SV} {ok:Bool} (hp:lkwp cx n H F t s v ok kk):
  ∃r,SV.lt n r/\kk r/\ ∀w,Sat cx β n H F w->(Instr.lookup t (s.val β) (v.val β) ok).run cx.P w= .ok (r.val β) w:=by
 have hres:=z_tT n β ok
 unfold lkwp at hp
 split at hp
 ·rename_i i hi
  have ti:=g.ti hi
  split at hp
  ·rename_i kt et m k hd
   split at hp
   ·rename_i ik hik
    have tik:=g.ti hik
    split at hp
    ·rename_i hdk
     have ht:=ti.real (d:= .map _ _) hd rfl
     have hk:=tik.real (d:= .string) hdk rfl
     obtain ⟨z,hz,hp⟩:=hp
     cases m with
     | none=>
      refine ⟨lkres ok none z,(hres none z).1,hp,fun w _=>?_⟩
      rw [(hres none z).2]
      exact z_pC ht hk k z (hz w) ok
     | some b=>
      obtain ⟨l,r,hm,rfl,hp⟩:=hp
      refine ⟨lkres ok (mlook l k) z,(hres _ z).1,hp,fun w hw=>?_⟩
      rw [(hres _ z).2]
      exact z_t9 ht hk (hm β w hw) k z (hz w) ok
    ·exact hp.elim
   ·exact hp.elim
  ·rename_i kt et m ki k hd
   split at hp
   ·rename_i ik hik
    have tik:=g.ti hik
    split at hp
    ·rename_i kj hdk
     obtain ⟨rfl,z,hz,hp⟩:=hp
     have ht:=ti.real (d:= .map _ _) hd rfl
     have hk:=tik.real (d:= .int _) hdk rfl
     cases m with
     | none=>
      refine ⟨lkres ok none z,(hres none z).1,hp,fun w _=>?_⟩
      rw [(hres none z).2]
      exact z_pf ht hk k z (hz w) ok
     | some b=>
      obtain ⟨l,r,hm,rfl,hp⟩:=hp
      refine ⟨lkres ok (ilook l k) z,(hres _ z).1,hp,fun w hw=>?_⟩
      rw [(hres _ z).2]
      exact z_sr ht hk (hm β w hw) k z (hz w) ok
    ·exact hp.elim
   ·exact hp.elim
  ·exact hp.elim
 ·exact hp.elim
theorem z_sl {P:Program} {t kt et:TypeId} (ht:P.underlying t=some (.map kt et)) (ty:TypeId) (ts:Array TypeId) (hts:ts[0]?=some t) (vs:Array Value) {w:World} {b:Nat} {l:ML} (h:mapP b l w) (hvs:vs[0]?=some (.map (some b))):
  (Builtin.len_ ts ty vs).run P w= .ok (.int .i64 l.length) w:=by
 obtain ⟨es,k,hb,hm⟩:=h
 have hl:es.length=l.length:=by rw [<-hm.cut,List.length_map]
 have hg:(getObj b).run P w= .ok (.map (es.map ME.ent).toArray k) w:=MapKept.run_getObj_map hb
 simp [Builtin.len_,hts,hvs,run_underlying ht,hg,goInt,hl]
theorem z_rE {P:Program} {t kt et:TypeId} (ht:P.underlying t=some (.map kt et)) (ty:TypeId) (ts:Array TypeId) (hts:ts[0]?=some t) (vs:Array Value) {w:World} {b:Nat} {l:MLI} {ki:IntKind} (h:mapIP ki b l w) (hvs:vs[0]?=some (.map (some b))):
  (Builtin.len_ ts ty vs).run P w= .ok (.int .i64 l.length) w:=by
 obtain ⟨es,k,hb,hm⟩:=h
 have hl:es.length=l.length:=by rw [<-hm.cut,List.length_map]
 have hg:(getObj b).run P w= .ok (.map (es.map (MEI.ent ki)).toArray k) w:=MapKept.run_getObj_map hb
 simp [Builtin.len_,hts,hvs,run_underlying ht,hg,goInt,hl]
theorem z_ku {P:Program} (a:Act) (c:Call) (b:Builtin) (hb:c.callee= .builtin b) (ty:TypeId) (w:World) (v:Value)
  (h:(builtin b c.argTypes ty (c.args.map fun | .const _=>true | _=>false) (c.args.map a.eval)).run P w= .ok (.value v) w):
  (do let d<-resolve a.eval c ty;invoke d.target d.args:Sem Next).run P w= .ok (.value v) w:=by
 simp only [resolve,hb,Sem.run_bind,Sem.run_pure,Result.andThen_ok,invoke]
 exact h
theorem z_pI (g:Good cx) (h:Inv cx β n env H F a u) (o:Oper) (hno: ∀t x lo hi mx,o.op= .slice t x lo hi mx->mx.isSome=true->hi.isSome=true) (hp:rowp cx n env H F o.op kk):
  ∃r,SV.lt n r/\kk r/\ ∀w,Sat cx β n H F w->(execOp a.eval o).run cx.P w= .ok (.value (r.val β)) w:=by
 obtain ⟨dst,op,ty,pos,after,guard⟩:=o
 cases op<;>simp only [rowp] at hp<;>try exact hp.elim
 case move x=>
  split at hp
  ·rename_i s he
   obtain ⟨h1,h2⟩:=h.ev he
   exact ⟨s,h2,hp,fun w _=>by simp [execOp,h1]⟩
  ·exact hp.elim
 case assign x=>
  split at hp
  ·rename_i s he
   obtain ⟨h1,h2⟩:=h.ev he
   exact ⟨s,h2,hp,fun w _=>by simp [execOp,h1]⟩
  ·exact hp.elim
 case pick c x y=>
  split at hp
  ·rename_i b s v hc hx hy
   obtain ⟨h1,_⟩:=h.ev hc
   obtain ⟨h3,h4⟩:=h.ev hx
   obtain ⟨h5,h6⟩:=h.ev hy
   cases b
   ·exact ⟨v,h6,hp,fun w _=>by simp [execOp,h1,h5,SV.val,SL.val,asBool]⟩
   ·exact ⟨s,h4,hp,fun w _=>by simp [execOp,h1,h3,SV.val,SL.val,asBool]⟩
  ·exact hp.elim
 case nilCheck x=>
  split at hp
  ·rename_i id o he
   obtain ⟨h1,h2⟩:=h.ev he
   exact ⟨_,h2,hp,fun w _=>by simp [execOp,h1,SV.val,SL.val]⟩
  ·rename_i ad he
   obtain ⟨h1,h2⟩:=h.ev he
   exact ⟨_,h2,hp,fun w _=>by simp [execOp,h1,SV.val,SL.val]⟩
  ·exact hp.elim
 case binOp op t x y ty2=>
  split at hp
  ·rename_i i xs ys hi hx hy
   obtain ⟨h1,_⟩:=h.ev hx
   obtain ⟨h3,_⟩:=h.ev hy
   obtain ⟨b,h7,h6⟩:=hp
   refine ⟨bl b,trivial,h6,fun w _=>?_⟩
   have h8:=h7 β w
   simp only [binSem] at h8
   simp only [execOp,h1,h3,Sem.run_bind,Sem.run_pure]
   simp only [Sem.run_bind] at h8
   rw [h8]
   rfl
  ·rename_i i a hi hx hy
   obtain ⟨h1,_⟩:=h.ev hx
   obtain ⟨h3,_⟩:=h.ev hy
   obtain ⟨b,h7,h6⟩:=hp
   refine ⟨bl b,trivial,h6,fun w _=>?_⟩
   have h8:=h7 w
   simp only [binSem] at h8
   simp only [execOp,h1,h3,Sem.run_bind,Sem.run_pure,SV.val,SL.val]
   simp only [Sem.run_bind] at h8
   rw [h8]
   rfl
  ·rename_i i s v hi hx hy
   obtain ⟨h1,_⟩:=h.ev hx
   obtain ⟨h3,_⟩:=h.ev hy
   obtain ⟨r,h5,h6,h7⟩:=z_rX (P:=cx.P) (g.ti hi) x y hp
   refine ⟨r,h5 n,h6,fun w _=>?_⟩
   have h8:=h7 β w
   simp only [binSem] at h8
   simp only [execOp,h1,h3,Sem.run_bind,Sem.run_pure]
   simp only [Sem.run_bind] at h8
   rw [h8]
   rfl
  ·exact hp.elim
 case unOp op t x=>
  split at hp
  ·rename_i s hx
   obtain ⟨h1,_⟩:=h.ev hx
   obtain ⟨r,h5,h6,h7⟩:=z_tJ (P:=cx.P) hp
   exact ⟨r,h5 n,h6,fun w _=>by simp [execOp,h1,h7 β w]⟩
  ·exact hp.elim
 case convert src dst x=>
  split at hp
  ·rename_i s hx
   obtain ⟨h1,_⟩:=h.ev hx
   obtain ⟨r,h5,h6,h7⟩:=z_tC (β:=β) g hp
   exact ⟨r,h5,h6,fun w hw=>by simp [execOp,h1,h7 w hw]⟩
  ·exact hp.elim
 case load t x=>
  split at hp
  ·rename_i s hx
   obtain ⟨h1,h2⟩:=h.ev hx
   obtain ⟨r,h5,h6,h7⟩:=z_tB g h2 hp h.sat
   exact ⟨r,h5,h6,fun w hw=>by simp [execOp,h1,h7 w hw]⟩
  ·exact hp.elim
 case slice t x lo hi mx=>
  split at hp
  ·rename_i s hx
   obtain ⟨h1,_⟩:=h.ev hx
   obtain ⟨r,h5,h6,h7⟩:=z_tN g h (hno t x lo hi mx rfl) hp
   exact ⟨r,h5,h6,fun w _=>by simp [execOp,h1,h7 w]⟩
  ·exact hp.elim
 case fieldAddr t x f=>
  split at hp
  ·rename_i s hx
   obtain ⟨h1,h2⟩:=h.ev hx
   obtain ⟨r,h5,h6,h7⟩:=z_tU (β:=β) g h2 hp
   exact ⟨r,h5,h6,fun w _=>by simp [execOp,h1,h7 w]⟩
  ·exact hp.elim
 case field t x f=>
  split at hp
  ·rename_i s hx
   obtain ⟨h1,h2⟩:=h.ev hx
   obtain ⟨r,h5,h6,h7⟩:=z_tP (β:=β) g h2 hp
   exact ⟨r,h5,h6,fun w _=>by simp [execOp,h1,h7 w]⟩
  ·exact hp.elim
 case indexAddr t x y=>
  split at hp
  ·rename_i s v hx hy
   obtain ⟨h1,h2⟩:=h.ev hx
   obtain ⟨h3,_⟩:=h.ev hy
   obtain ⟨r,h5,h6,h7⟩:=z_tQ (β:=β) g h2 hp
   exact ⟨r,h5,h6,fun w _=>by simp [execOp,h1,h3,h7 w]⟩
  ·exact hp.elim
 case index t x y=>
  split at hp
  ·rename_i s v hx hy
   obtain ⟨h1,h2⟩:=h.ev hx
   obtain ⟨h3,_⟩:=h.ev hy
   obtain ⟨r,h5,h6,h7⟩:=z_ua (β:=β) g h2 hp
   exact ⟨r,h5,h6,fun w _=>by simp [execOp,h1,h3,h7 w]⟩
  ·exact hp.elim
 case extract x i=>
  split at hp
  ·rename_i s hx
   obtain ⟨h1,_⟩:=h.ev hx
   obtain ⟨r,h5,h6,h7⟩:=z_tO (cx:=cx) (β:=β) (n:=n) hp
   exact ⟨r,h5,h6,fun w _=>by simp [execOp,h1,h7 w]⟩
  ·exact hp.elim
 case lookup t x y ok=>
  split at hp
  ·rename_i s v hx hy
   obtain ⟨h1,_⟩:=h.ev hx
   obtain ⟨h3,_⟩:=h.ev hy
   obtain ⟨r,h5,h6,h7⟩:=z_uc (β:=β) g hp
   exact ⟨r,h5,h6,fun w hw=>by simp [execOp,h1,h3,h7 w hw]⟩
  ·exact hp.elim
 case build t parts=>
  obtain ⟨r,h5,h6,h7⟩:=z_ur g h hp
  exact ⟨r,h5,h6,fun w _=>by simp [execOp,h7 w]⟩
 case makeFunc f first caps=>
  split at hp
  ·rename_i l m hl hm
   obtain ⟨h1,h2⟩:=z_jB h _ _ hl
   obtain ⟨h3,h4⟩:=z_jB h _ _ hm
   refine ⟨.fn f l m,⟨h2,h4⟩,hp,fun w _=>?_⟩
   have e1:first.map a.eval=(l.map (SL.val β)).toArray:=by apply Array.ext';rw [Array.toList_map];exact h1
   have e2:caps.map a.eval=(m.map (SL.val β)).toArray:=by apply Array.ext';rw [Array.toList_map];exact h3
   simp [execOp,Instr.makeFunc,e1,e2,SV.val]
  ·exact hp.elim
 case call c=>
  have hb1: ∀(f:SV->(SV->Prop)->TD->Prop) (b:Builtin),c.callee= .builtin b->bi1 cx env c f kk->
    (∀(t:TypeId) (i:TI),TiOk cx.P t i->c.argTypes[0]?=some t-> ∀s,f s kk i.desc->(c.args.map a.eval)[0]?=some (s.val β)-> ∃r,SV.lt n r/\kk r/\ ∀w,(builtin b c.argTypes ty (c.args.map fun | .const _=>true | _=>false) (c.args.map a.eval)).run cx.P w= .ok (.value (r.val β)) w)->
    ∃r,SV.lt n r/\kk r/\ ∀w,Sat cx β n H F w->(execOp a.eval {dst,op:= .call c,type:=ty,pos,after,guard}).run cx.P w= .ok (.value (r.val β)) w:=by
   intro f b hb hq hf
   simp only [bi1] at hq
   split at hq
   ·rename_i x xs t ts hxs hts
    split at hq
    ·rename_i s i he hi
     have e1:c.argTypes[0]?=some t:=by rw [<-Array.getElem?_toList,hts];rfl
     have e2:(c.args.map a.eval)[0]?=some (s.val β):=by
      rw [Array.getElem?_map,<-Array.getElem?_toList,hxs]
      simp [(h.ev he).1]
     obtain ⟨r,h1,h2,h3⟩:=hf t i (g.ti hi) e1 s hq e2
     exact ⟨r,h1,h2,fun w _=>z_ku a c b hb ty w _ (h3 w)⟩
    ·exact hq.elim
   ·exact hq.elim
  have hmm: ∀(mx:Bool) (b:Builtin),c.callee= .builtin b->mmwp mx env c.args.toList kk->
    (∀k x y w,(builtin b c.argTypes ty (c.args.map fun | .const _=>true | _=>false) #[.int k x,.int k y]).run cx.P w= .ok (.value (.int k (match mx with | true=>max x y | false=>min x y))) w)->
    (∀k l x y w,(builtin b c.argTypes ty (c.args.map fun | .const _=>true | _=>false) #[.int k x,.int l y]).run cx.P w= .ok (.value (.int k (match mx with | true=>max x y | false=>min x y))) w)->
    ∃r,SV.lt n r/\kk r/\ ∀w,Sat cx β n H F w->(execOp a.eval {dst,op:= .call c,type:=ty,pos,after,guard}).run cx.P w= .ok (.value (r.val β)) w:=by
   intro mx b hb hq _ hf
   unfold mmwp at hq
   split at hq
   ·rename_i x y hxs
    split at hq
    ·rename_i k i l j hx hy
     obtain ⟨r,hr,hk⟩:=hq
     refine ⟨.c (.v (.int k r)),trivial,hk,fun w _=>z_ku a c b hb ty w _ ?_⟩
     have e2:c.args.map a.eval= #[.int k i,.int l j]:=by
      apply Array.ext'
      rw [Array.toList_map,hxs]
      simp [(h.ev hx).1,(h.ev hy).1,SV.val,SL.val]
     rw [e2,<-hr]
     exact hf k l i j w
    ·exact hq.elim
   ·exact hq.elim
  split at hp
  ·rename_i hb
   unfold lenwp at hp
   split at hp
   ·rename_i x xs t ts hxs hts
    split at hp
    ·rename_i s i he hi
     have e1:c.argTypes[0]?=some t:=by rw [<-Array.getElem?_toList,hts];rfl
     have e2:(c.args.map a.eval)[0]?=some (s.val β):=by
      rw [Array.getElem?_map,<-Array.getElem?_toList,hxs]
      simp [(h.ev he).1]
     have ti:=g.ti hi
     split at hp
     ·rename_i m kt et hd
      have ht:=ti.real (d:= .map _ _) hd rfl
      cases m with
      | none=>
       refine ⟨.c (.v (.int .i64 0)),trivial,hp,fun w _=>z_ku a c .len hb ty w _ ?_⟩
       have e3:(c.args.map a.eval)[0]?=some (.map none):=e2
       simp [builtin,Builtin.len_,e1,e3,run_underlying ht,goInt,SV.val,SL.val]
      | some b=>
       have e3:(c.args.map a.eval)[0]?=some (.map (some b)):=e2
       simp only at hp
       split at hp
       ·obtain ⟨l,hm,hk⟩:=hp
        refine ⟨.c (.v (.int .i64 l.length)),trivial,hk,fun w hw=>z_ku a c .len hb ty w _ ?_⟩
        have:=z_sl ht ty c.argTypes e1 (c.args.map a.eval) (hm β w hw) e3
        simp [builtin,this,SV.val,SL.val]
       ·obtain ⟨l,hm,hk⟩:=hp
        refine ⟨.c (.v (.int .i64 l.length)),trivial,hk,fun w hw=>z_ku a c .len hb ty w _ ?_⟩
        have:=z_rE ht ty c.argTypes e1 (c.args.map a.eval) (hm β w hw) e3
        simp [builtin,this,SV.val,SL.val]
     ·obtain ⟨r,h1,h2,h3⟩:=z_ue (n:=n) ti ty c.argTypes e1 hp _ e2
      exact ⟨r,h1,h2,fun w _=>z_ku a c .len hb ty w _ (by simp [builtin,h3 w])⟩
    ·exact hp.elim
   ·exact hp.elim
  ·rename_i hb
   exact hb1 scap .cap hb hp fun t i ti e1 s hs e2=>by
    obtain ⟨r,h1,h2,h3⟩:=z_un (n:=n) ti ty c.argTypes e1 hs _ e2
    exact ⟨r,h1,h2,fun w=>by simp [builtin,h3 w]⟩
  ·rename_i hb
   have key: ∀k l x y w,(builtin .min c.argTypes ty (c.args.map fun | .const _=>true | _=>false) #[.int k x,.int l y]).run cx.P w= .ok (.value (.int k (min x y))) w:=fun k l x y w=>by
    have:(if y<x then y else x)=min x y:=by omega
    simp [builtin,Builtin.min_,Builtin.min2,this]
   exact hmm false .min hb hp (fun k x y w=>key k k x y w) key
  ·rename_i hb
   have key: ∀k l x y w,(builtin .max c.argTypes ty (c.args.map fun | .const _=>true | _=>false) #[.int k x,.int l y]).run cx.P w= .ok (.value (.int k (max x y))) w:=fun k l x y w=>by
    have:(if y>x then y else x)=max x y:=by omega
    simp [builtin,Builtin.max_,Builtin.max2]
    omega
   exact hmm true .max hb hp (fun k x y w=>key k k x y w) key
  ·exact hp.elim
end
end Go.Proofs.YtfomhhkoamapmaaGreatDoor.Sx
namespace Go.Proofs.YtfomhhkoamapmaaGreatDoor.Sx
open Go
section
variable {cx:Cx} {β:Va} {n:Nat} {env:Env} {H:List Bk} {F:List Fact} {a:Act} {w w':World}
theorem Inv.mem (h:Inv cx β n env H F a w) {H':List Bk} {F':List Fact} {w':World} (hs:Sat cx β n H' F' w'):Inv cx β n env H' F' a w':=
 ⟨h.ag,h.size,h.df,h.lte,hs⟩
theorem Sat.frame (h:Sat cx β n H F w) {S:Nat->Prop} (hc:Chg S w w') (hb: ∀b∈H,¬S (β b.id)) (hf: ∀f∈F,∀k,f.D k-> ¬S k) (hS: ∀k,k<w.heap.size->S k->cx.S k\/cx.W0.heap.size<=k) (hpn: ∀p∈β.pins,¬S p.1):Sat cx β n H F w':=by
 refine ⟨?_,h.fix,fun b hm=>?_,h.mine,h.inj,h.ltb,fun f hm=>?_,fun f hm k hk=>Nat.lt_of_lt_of_le (h.flt f hm k hk) hc.size,h.sepb,h.fown,h.sepf,fun p hp=>⟨?_,(h.pin p hp).2⟩,h.mrk,h.rnd⟩
 ·refine ⟨hc.os.trans h.chg.os,hc.tape.trans h.chg.tape,hc.output.trans h.chg.output,Nat.le_trans h.chg.size hc.size,fun k hk hn=>?_⟩
  rw [hc.same k (Nat.lt_of_lt_of_le hk h.chg.size) (fun q=>?_)]
  ·exact h.chg.same k hk hn
  ·rcases hS k (Nat.lt_of_lt_of_le hk h.chg.size) q with q | q
   ·exact hn q
   ·omega
 ·rw [hc.same _ (h.lt hm) (hb b hm)];exact h.blk b hm
 ·exact f.st _ _ (fun k hk=>hc.same k (h.flt f hm k hk) (hf f hm k hk)) (h.fact f hm)
 ·rw [hc.same _ (h.pinLt hp) (hpn p hp)];exact (h.pin p hp).1
theorem Sat.same (h:Sat cx β n H F w) (hc:Chg None_ w w'):Sat cx β n H F w':=
 h.frame hc (fun _ _ q=>q) (fun _ _ _ _ q=>q) (fun _ _ q=>q.elim) (fun _ _ q=>q)
theorem Sat.add (h:Sat cx β n H F w) (hc:Chg None_ w w') (f:Fact) (hp:f.p w') (hD: ∀k,f.D k->w.heap.size<=k/\k<w'.heap.size):Sat cx β n H (f::F) w':=by
 have h':=h.same hc
 refine ⟨h'.chg,h'.fix,h'.blk,h'.mine,h'.inj,h'.ltb,?_,?_,?_,?_,?_,fun p hpp=>⟨(h'.pin p hpp).1,(h'.pin p hpp).2.1,fun g hg=>?_⟩,h'.mrk,h'.rnd⟩
 ·intro g hg
  rcases List.mem_cons.1 hg with rfl | hg
  ·exact hp
  ·exact h'.fact g hg
 ·intro g hg
  rcases List.mem_cons.1 hg with rfl | hg
  ·exact fun k hk=>(hD k hk).2
  ·exact h'.flt g hg
 ·intro g hg b hb
  rcases List.mem_cons.1 hg with rfl | hg
  ·intro q;have:=(hD _ q).1;have:=h.lt hb;omega
  ·exact h'.sepb g hg b hb
 ·intro g hg
  rcases List.mem_cons.1 hg with rfl | hg
  ·intro _ k hk;exact .inr (Nat.le_trans h.chg.size (hD k hk).1)
  ·exact h'.fown g hg
 ·refine List.pairwise_cons.2 ⟨fun g hg _ k hk q=>?_,h'.sepf⟩
  have:=h.flt g hg k q
  have:=(hD k hk).1
  omega
 ·rcases List.mem_cons.1 hg with rfl | hg
  ·intro q;have:=(hD _ q).1;have:=h.pinLt hpp;omega
  ·exact (h'.pin p hpp).2.2 g hg
theorem Sat.apart (h:Sat cx β n H F w) {i j:Nat} {f g:Fact} (hi:F[i]?=some f) (hj:F[j]?=some g) (hne:i≠j) (ho:f.own=true\/g.own=true): ∀k,f.D k-> ¬g.D k:=by
 have hp:=List.pairwise_iff_getElem.1 h.sepf
 obtain ⟨hil,rfl⟩:=List.getElem?_eq_some_iff.1 hi
 obtain ⟨hjl,rfl⟩:=List.getElem?_eq_some_iff.1 hj
 rcases Nat.lt_or_gt_of_ne hne with hlt | hgt
 ·exact hp i j hil hjl hlt ho
 ·intro k hk hq
  exact hp j i hjl hil hgt ho.symm k hq hk
theorem Sat.upd (h:Sat cx β n H F w) {j:Nat} {f f':Fact} (hj:nth F j=some f) (hown:f.own=true) (hc:Chg f.D w w') (hp:f'.p w') (hD: ∀k,f'.D k->f.D k\/(w.heap.size<=k/\k<w'.heap.size)):
  Sat cx β n H (putAt F j f') w':=by
 rw [z_aX] at hj
 have hjl:j<F.length:=(List.getElem?_eq_some_iff.1 hj).1
 have hfm:f∈F:=List.mem_of_getElem? hj
 have other: ∀g∈putAt F j f',g=f'\/ ∃i,F[i]?=some g/\i≠j:=by
  intro g hg
  rw [z_aT] at hg
  obtain ⟨i,hi⟩:=List.getElem?_of_mem hg
  rw [List.getElem?_set] at hi
  split at hi
  ·rename_i he
   subst he
   exact .inl (Option.some.inj hi).symm
  ·rename_i he
   exact .inr ⟨i,hi,fun q=>he q.symm⟩
 have htop:f'.D=f'.D:=rfl
 refine ⟨?_,h.fix,fun b hm=>?_,h.mine,h.inj,h.ltb,fun g hg=>?_,fun g hg k hk=>?_,fun g hg b hb=>?_,fun g hg ho k hk=>?_,?_,fun p hpp=>⟨?_,(h.pin p hpp).2.1,fun g hg=>?_⟩,h.mrk,h.rnd⟩
 ·refine ⟨hc.os.trans h.chg.os,hc.tape.trans h.chg.tape,hc.output.trans h.chg.output,Nat.le_trans h.chg.size hc.size,fun k hk hn=>?_⟩
  rw [hc.same k (Nat.lt_of_lt_of_le hk h.chg.size) (fun q=>?_)]
  ·exact h.chg.same k hk hn
  ·rcases h.fown f hfm hown k q with q | q
   ·exact hn q
   ·omega
 ·rw [hc.same _ (h.lt hm) (h.sepb f hfm b hm)];exact h.blk b hm
 ·rcases other g hg with rfl | ⟨i,hi,hne⟩
  ·exact hp
  ·exact g.st _ _ (fun k hk=>hc.same k (h.flt g (List.mem_of_getElem? hi) k hk) (h.apart hi hj hne (.inr hown) k hk)) (h.fact g (List.mem_of_getElem? hi))
 ·rcases other g hg with rfl | ⟨i,hi,hne⟩
  ·rcases hD k hk with q | q
   ·exact Nat.lt_of_lt_of_le (h.flt f hfm k q) hc.size
   ·exact q.2
  ·exact Nat.lt_of_lt_of_le (h.flt g (List.mem_of_getElem? hi) k hk) hc.size
 ·rcases other g hg with rfl | ⟨i,hi,hne⟩
  ·intro q
   rcases hD _ q with q | q
   ·exact h.sepb f hfm b hb q
   ·have:=h.lt hb;omega
  ·exact h.sepb g (List.mem_of_getElem? hi) b hb
 ·rcases other g hg with rfl | ⟨i,hi,hne⟩
  ·rcases hD k hk with q | q
   ·exact h.fown f hfm hown k q
   ·exact .inr (Nat.le_trans h.chg.size q.1)
  ·exact h.fown g (List.mem_of_getElem? hi) ho k hk
 ·have new_old: ∀(i:Nat) (g:Fact),F[i]?=some g->i≠j-> ∀k,f'.D k-> ¬g.D k:=by
   intro i g hi hne k hk hq
   rcases hD k hk with q | q
   ·exact h.apart hj hi (Ne.symm hne) (.inl hown) k q hq
   ·have:=h.flt g (List.mem_of_getElem? hi) k hq;omega
  rw [z_aT,List.pairwise_iff_getElem]
  intro p q hp' hq' hlt ho k
  rw [List.length_set] at hp' hq'
  rw [List.getElem_set,List.getElem_set]
  rw [List.getElem_set,List.getElem_set] at ho
  by_cases hpj:j=p
  ·subst hpj
   have hne: ¬j=q:=by omega
   rw [if_pos rfl,if_neg hne]
   exact new_old q _ (List.getElem?_eq_getElem hq') (Ne.symm hne) k
  ·rw [if_neg hpj]
   rw [if_neg hpj] at ho
   by_cases hqj:j=q
   ·subst hqj
    rw [if_pos rfl]
    intro h1 h2
    exact new_old p _ (List.getElem?_eq_getElem hp') (Ne.symm hpj) k h2 h1
   ·rw [if_neg hqj]
    rw [if_neg hqj] at ho
    exact List.pairwise_iff_getElem.1 h.sepf p q hp' hq' hlt ho k
 ·rw [hc.same _ (h.pinLt hpp) ((h.pin p hpp).2.2 f hfm)];exact (h.pin p hpp).1
 ·rcases other g hg with rfl | ⟨i,hi,hne⟩
  ·intro q
   rcases hD _ q with q | q
   ·exact (h.pin p hpp).2.2 f hfm q
   ·have:=h.pinLt hpp;omega
  ·exact (h.pin p hpp).2.2 g (List.mem_of_getElem? hi)
theorem Inv.new (h:Inv cx β n env H F a w) (ty:TypeId) (xs:List SL) (hx: ∀x∈xs,x.lt n):
  ∃β':Va,β' n=w.heap.size/\Agr n β β'/\Inv cx β' (n+1) env (⟨n,ty,xs⟩::H) F a (w.alloc (.cells (xs.map (SL.val β)).toArray ty)):=by
 refine ⟨β.set n w.heap.size,β.set_same _ _,β.set_agr _ _,⟨?_,h.size,h.df,fun t s ht=>SV.lt_mono (Nat.le_succ _) (h.lte t s ht),h.sat.new ty xs hx⟩⟩
 intro t s ht
 rw [SV.val_congr (β:=β) (β.set_agr _ _) (h.lte t s ht)]
 exact h.ag t s ht
def alwp (cx:Cx) (n:Nat) (env:Env) (H:List Bk) (F:List Fact) (dst:Option Tmp) (t:TypeId) (K:KT):Prop:=
 match lk cx.tt t with
 | some i=>put cx.N (n+1) env (⟨n,t,i.zero.map SL.v⟩::H) F dst (.c (.p n 0)) K
 | none=>False
def bxwp (cx:Cx) (n:Nat) (env:Env) (H:List Bk) (F:List Fact) (dst:Option Tmp) (t:TypeId) (x:Operand) (K:KT):Prop:=
 match ev env x with
 | some s=>match flat s with
  | some xs=>put cx.N (n+1) env (⟨n,t,xs⟩::H) F dst (.c (.p n 0)) K
  | none=>False
 | none=>False
theorem z_t8 (g:Good cx) (h:Inv cx β n env H F a w) {o:Oper} {t:TypeId} (ho:o.op= .alloc t) {K:KT} (hp:alwp cx n env H F o.dst t K) {K':Act->World->Prop} (hk: ∀a w,AfterE cx β n K a w->K' a w) {Q:Exit->Act->World->Prop}:o.wpIn cx.fence 0 cx.P a w K' Q:=by
 unfold alwp at hp
 split at hp
 ·rename_i i hi
  obtain ⟨z,hz,hzc⟩:=(g.ti hi).run_zero w
  obtain ⟨β',hβ,hext,hi'⟩:=h.new t (i.zero.map SL.v) (fun x hx=>by obtain ⟨z,_,rfl⟩:=List.mem_map.1 hx;trivial)
  have hcs:z.cells=((i.zero.map SL.v).map (SL.val β)).toArray:=by
   apply Array.ext'
   rw [hzc]
   simp [Function.comp_def,SL.val]
  refine z_gd (v:=(SV.c (.p n 0)).val β') (w':=w.alloc (.cells ((i.zero.map SL.v).map (SL.val β)).toArray t)) ?_ (notDefer ho (fun _ q=>by cases q)) (hk _ _ ((z_aL (s:= .c (.p n 0)) hi' (Nat.lt_succ_self n) hp).ext hext (Nat.le_succ n)))
  have hal:(Instr.alloc t true (.tuple #[])).run cx.P w= .ok (.pointer (some ⟨w.heap.size,0,none⟩)) (w.alloc (.cells z.cells t)):=by
   simp [Instr.alloc,hz,newVar,newRow]
  simp only [execOp,ho,Sem.run_bind,hal,Result.andThen_ok,Sem.run_pure,SV.val,SL.val,hβ,<-hcs]
 ·exact hp.elim
theorem z_tZ (h:Inv cx β n env H F a w) {o:Oper} {t:TypeId} {x:Operand} (ho:o.op= .box t x) {K:KT} (hp:bxwp cx n env H F o.dst t x K) {K':Act->World->Prop} (hk: ∀a w,AfterE cx β n K a w->K' a w) {Q:Exit->Act->World->Prop}:o.wpIn cx.fence 0 cx.P a w K' Q:=by
 unfold bxwp at hp
 split at hp
 ·rename_i s he
  obtain ⟨h1,h2⟩:=h.ev he
  split at hp
  ·rename_i xs hx
   obtain ⟨β',hβ,hext,hi'⟩:=h.new t xs (z_r2 hx h2)
   have hcs:(s.val β).cells=(xs.map (SL.val β)).toArray:=by
    apply Array.ext'
    rw [z_mX hx]
   refine z_gd (v:=(SV.c (.p n 0)).val β') (w':=w.alloc (.cells (xs.map (SL.val β)).toArray t)) ?_ (notDefer ho (fun _ q=>by cases q)) (hk _ _ ((z_aL (s:= .c (.p n 0)) hi' (Nat.lt_succ_self n) hp).ext hext (Nat.le_succ n)))
   have hal:(Instr.box t (s.val β)).run cx.P w= .ok (.pointer (some ⟨w.heap.size,0,none⟩)) (w.alloc (.cells (s.val β).cells t)):=by
    simp [Instr.box,newVar,newRow]
   have e:(execOp a.eval o).run cx.P w= .ok (.value (.pointer (some ⟨w.heap.size,0,none⟩))) (w.alloc (.cells (xs.map (SL.val β)).toArray t)):=by
    simp only [execOp,ho,h1,Sem.run_bind,hal,Result.andThen_ok,Sem.run_pure,hcs]
   rw [e]
   simp only [SV.val,SL.val,hβ]
  ·exact hp.elim
 ·exact hp.elim
def SL.one:SL->Bool
 | .p _ _=>true
 | .v x=>match x with | .agg _ | .tuple _=>false | _=>true
theorem SL.one_cell {x:SL} (h:x.one=true) (β:Va):(x.val β).oneCell'=true:=by
 cases x with
 | p id o=>rfl
 | v x=>cases x<;>first | rfl | cases h
def allOne:List SL->Bool
 | []=>true
 | x::r=>match x.one with | true=>allOne r | false=>false
theorem z_uf {xs:List SL} (h:allOne xs=true): ∀x∈xs,x.one=true:=by
 induction xs with
 | nil=>intro x hx;cases hx
 | cons y r ih=>
  simp only [allOne] at h
  cases hy:y.one with
  | false=>rw [hy] at h;cases h
  | true=>
   rw [hy] at h
   intro x hx
   rcases List.mem_cons.1 hx with rfl | hx
   ·exact hy
   ·exact ih h x hx
theorem z_c5 {P:Program} (b:Nat) (ty:TypeId): ∀(vs:List Value) (o i:Nat) (w:World) (cs:List Value),w.heap[b]?=some (.cells cs.toArray ty (0,0))->(∀v∈vs,v.oneCell'=true)->o+i+vs.length<=cs.length->
  ∃w',(storeCells ⟨b,o,none⟩ vs i).run P w= .ok () w'/\w'.heap[b]?=some (.cells (putAll cs (o+i) vs).toArray ty (0,0))/\Chg (· =b) w w'/\w'.heap.size=w.heap.size
 | [],o,i,w,cs,hb,_,_=>⟨w,by simp [storeCells],by simpa [putAll] using hb,Chg.refl _ _,rfl⟩
 | v::vs,o,i,w,cs,hb,h1,hl=>by
  simp only [List.length_cons] at hl
  have hc:w.cell? ⟨b,o+i,none⟩=some (cs[o+i]'(by omega)):=by
   rw [cell_of_row w b (o+i) _ _ _ hb]
   simp
  have hf:w.frozen? ⟨b,o+i,none⟩=false:=by simp [World.frozen?,hb]
  have hs:(store ((⟨b,o,none⟩:Addr).add i) v).run P w= .ok () (w.setCell ⟨b,o+i,none⟩ v):=by
   rw [z_bk,run_store P w _ v _ (h1 v List.mem_cons_self),hc]
   simp [hf]
  have hb':(w.setCell ⟨b,o+i,none⟩ v).heap[b]?=some (.cells (cs.set (o+i) v).toArray ty (0,0)):=by
   simp [World.setCell,Array.getElem?_modify,hb]
  obtain ⟨w',h2,h3,h4,h5⟩:=z_c5 (P:=P) b ty vs o (i+1) (w.setCell ⟨b,o+i,none⟩ v) (cs.set (o+i) v) hb' (fun x hx=>h1 x (List.mem_cons_of_mem _ hx)) (by rw [List.length_set];omega)
  refine ⟨w',?_,?_,?_,?_⟩
  ·simp only [storeCells,Sem.run_bind,hs,Result.andThen_ok,h2]
  ·rw [h3,putAll,z_aT,Nat.add_assoc]
  ·have hc1:Chg (· =b) w (w.setCell ⟨b,o+i,none⟩ v):=⟨rfl,rfl,rfl,by simp [World.setCell],fun k _ hk=>RowKit.Below.heap_setCell _ _ _ _ hk⟩
   exact Chg.trans (S:=(· =b)) (T:=(· =b)) (U:=(· =b)) hc1 h4 (fun _ _ q=>q) (fun _ _ q=>q)
  ·rw [h5];simp [World.setCell]
theorem z_q8 {f:List SL->List SL} {H:List Bk} {i:Nat} {b:Bk} (hn:H.Pairwise (fun b c=>b.id≠c.id)) (h:b∈setCells H i f):(b∈H/\b.id≠i)\/ ∃c∈H,c.id=i/\b=⟨c.id,c.ty,f c.cells⟩:=by
 induction H with
 | nil=>cases h
 | cons c r ih=>
  simp only [setCells] at h
  obtain ⟨hc,hr⟩:=List.pairwise_cons.1 hn
  cases hb:Nat.beq c.id i with
  | true=>
   have he:=Nat.eq_of_beq_eq_true hb
   rw [hb] at h
   rcases List.mem_cons.1 h with rfl | h
   ·exact .inr ⟨c,List.mem_cons_self,he,rfl⟩
   ·exact .inl ⟨List.mem_cons_of_mem _ h,fun q=>hc b h (by rw [q,he])⟩
  | false=>
   have hne:c.id≠i:=fun q=>by subst q;rw [Nat.beq_refl] at hb;cases hb
   rw [hb] at h
   rcases List.mem_cons.1 h with rfl | h
   ·exact .inl ⟨List.mem_cons_self,hne⟩
   ·rcases ih hr h with ⟨h1,h2⟩ | ⟨d,h1,h2,h3⟩
    ·exact .inl ⟨List.mem_cons_of_mem _ h1,h2⟩
    ·exact .inr ⟨d,List.mem_cons_of_mem _ h1,h2,h3⟩
theorem z_nt {f:List SL->List SL} (R:Nat->Nat->Prop): ∀ {H:List Bk} {i:Nat},H.Pairwise (fun b c=>R b.id c.id)->(setCells H i f).Pairwise (fun b c=>R b.id c.id)
 | [],_,_=>List.Pairwise.nil
 | c::r,i,h=>by
  obtain ⟨h1,h2⟩:=List.pairwise_cons.1 h
  simp only [setCells]
  cases hb:Nat.beq c.id i with
  | true=>exact List.pairwise_cons.2 ⟨fun x hx=>h1 x hx,h2⟩
  | false=>
   refine List.pairwise_cons.2 ⟨fun x hx=>?_,z_nt R h2⟩
   have:x.id∈(setCells r i f).map (·.id):=List.mem_map_of_mem hx
   rw [z_se] at this
   obtain ⟨y,hy,he⟩:=List.mem_map.1 this
   rw [<-he]
   exact h1 y hy
theorem Sat.ids (h:Sat cx β n H F w):H.Pairwise (fun b c=>b.id≠c.id):=h.inj.imp (fun hne q=>hne (by rw [q]))
theorem Sat.set (h:Sat cx β n H F w) {i:Nat} {cs:List SL} {o:Nat} {ys:List SL} (hy: ∀y∈ys,y.lt n)
  {w':World} (hb: ∃ty,(∃b∈H,b.id=i/\b.ty=ty/\b.cells=cs)/\w'.heap[β i]?=some (.cells ((putAll cs o ys).map (SL.val β)).toArray ty (0,0))) (hg:Chg (· =β i) w w'):
  Sat cx β n (setCells H i (fun l=>putAll l o ys)) F w':=by
 obtain ⟨ty,⟨b0,hb0,hi0,hty,hcs⟩,hb⟩:=hb
 have hcases: ∀b∈setCells H i (fun l=>putAll l o ys),(b∈H/\b.id≠i)\/b=⟨i,ty,putAll cs o ys⟩:=by
  intro b hm
  rcases z_q8 h.ids hm with q | ⟨c,hcm,hci,rfl⟩
  ·exact .inl q
  ·right
   have:c=b0:=by
    have hids:=h.ids
    by_cases hcb:c=b0
    ·exact hcb
    ·exfalso
     obtain ⟨p,hp⟩:=List.getElem?_of_mem hcm
     obtain ⟨q,hq⟩:=List.getElem?_of_mem hb0
     obtain ⟨hpl,hpe⟩:=List.getElem?_eq_some_iff.1 hp
     obtain ⟨hql,hqe⟩:=List.getElem?_eq_some_iff.1 hq
     have hpw:=List.pairwise_iff_getElem.1 hids
     rcases Nat.lt_trichotomy p q with hlt | heq | hgt
     ·exact hpw p q hpl hql hlt (by rw [hpe,hqe,hci,hi0])
     ·subst heq;rw [hp] at hq;exact hcb (Option.some.inj hq)
     ·exact hpw q p hql hpl hgt (by rw [hpe,hqe,hci,hi0])
   subst this
   rw [hci,hty,hcs]
 have hmine:cx.S (β i)\/cx.W0.heap.size<=β i:=by rw [<-hi0];exact h.mine b0 hb0
 have hne: ∀b∈H,b.id≠i->β b.id≠β i:=by
  intro b hm hne q
  obtain ⟨p,hp⟩:=List.getElem?_of_mem hm
  obtain ⟨r,hr⟩:=List.getElem?_of_mem hb0
  obtain ⟨hpl,hpe⟩:=List.getElem?_eq_some_iff.1 hp
  obtain ⟨hrl,hre⟩:=List.getElem?_eq_some_iff.1 hr
  have hpw:=List.pairwise_iff_getElem.1 h.inj
  rcases Nat.lt_trichotomy p r with hlt | heq | hgt
  ·exact hpw p r hpl hrl hlt (by rw [hpe,hre,q,hi0])
  ·subst heq;rw [hp] at hr;obtain rfl:=Option.some.inj hr;exact hne hi0
  ·exact hpw r p hrl hpl hgt (by rw [hpe,hre,q,hi0])
 refine ⟨?_,h.fix,fun b hm=>?_,fun b hm=>?_,z_nt (fun x y=>β x≠β y) h.inj,fun b hm=>?_,fun f hm=>?_,fun f hm k hk=>Nat.lt_of_lt_of_le (h.flt f hm k hk) hg.size,fun f hm b hm'=>?_,h.fown,h.sepf,fun p hp=>⟨?_,(h.pin p hp).2⟩,h.mrk,h.rnd⟩
 ·refine ⟨hg.os.trans h.chg.os,hg.tape.trans h.chg.tape,hg.output.trans h.chg.output,Nat.le_trans h.chg.size hg.size,fun k hk hn=>?_⟩
  rw [hg.same k (Nat.lt_of_lt_of_le hk h.chg.size) (fun q=>?_)]
  ·exact h.chg.same k hk hn
  ·subst q
   rcases hmine with q | q
   ·exact hn q
   ·omega
 ·rcases hcases b hm with ⟨h1,h2⟩ | rfl
  ·rw [hg.same _ (h.lt h1) (hne b h1 h2)];exact h.blk b h1
  ·exact hb
 ·rcases hcases b hm with ⟨h1,h2⟩ | rfl
  ·exact h.mine b h1
  ·exact hmine
 ·rcases hcases b hm with ⟨h1,h2⟩ | rfl
  ·exact h.ltb b h1
  ·refine ⟨by rw [<-hi0];exact (h.ltb b0 hb0).1,?_⟩
   have key: ∀(ys l:List SL) (o:Nat),(∀x∈l,x.lt n)->(∀x∈ys,x.lt n)-> ∀x∈putAll l o ys,x.lt n:=by
    intro ys
    induction ys with
    | nil=>intro l o hl _;exact hl
    | cons y ys ih=>
     intro l o hl hys
     refine ih _ _ (fun x hx=>?_) (fun x hx=>hys x (List.mem_cons_of_mem _ hx))
     rw [z_aT] at hx
     rcases List.mem_or_eq_of_mem_set hx with hx | rfl
     ·exact hl x hx
     ·exact hys _ List.mem_cons_self
   exact key ys cs o (by rw [<-hcs];exact (h.ltb b0 hb0).2) hy
 ·refine f.st _ _ (fun k hk=>hg.same k (h.flt f hm k hk) (fun q=>?_)) (h.fact f hm)
  subst q
  rw [<-hi0] at hk
  exact h.sepb f hm b0 hb0 hk
 ·rcases hcases b hm' with ⟨h1,h2⟩ | rfl
  ·exact h.sepb f hm b h1
  ·rw [<-hi0];exact h.sepb f hm b0 hb0
 ·rw [hg.same _ (h.pinLt hp) (fun q=>by rw [<-hi0] at q;exact h.pinBk hp hb0 q.symm)];exact (h.pin p hp).1
def stwp (cx:Cx) (n:Nat) (env:Env) (H:List Bk) (F:List Fact) (dst:Option Tmp) (t:TypeId) (x y:Operand) (K:KT):Prop:=
 match lk cx.tt t,ev env x,ev env y,dst with
 | some i,some s,some u,none=>match flat u with
  | some ys=>match Nat.beq ys.length i.size,allOne ys with
   | true,true=>match s with
    | .c (.p id o)=>match cellsAt H id with
     | some cs=>match Nat.ble (o+ys.length) cs.length with
      | true=>K n env (setCells H id (fun l=>putAll l o ys)) F
      | false=>False
     | none=>False
    | .c (.v (.pointer (some ad)))=> ∃F',(∀β w,Sat cx β n H F w-> ∃w',(storeCells ad (ys.map (SL.val β)) 0).run cx.P w= .ok () w'/\Sat cx β n H F' w')/\K n env H F'
    | _=>False
   | _,_=>False
  | none=>False
 | _,_,_,_=>False
theorem z_nr {P:Program} {t:TypeId} {i:TI} (ti:TiOk P t i) {v:Value} (hv:v.cells.size=i.size) (ad:Addr) (w:World):(storeVar t ad v).run P w=(storeCells ad v.cells.toList 0).run P w:=by
 simp [storeVar,ti.run_size,hv]
theorem z_us (g:Good cx) (h:Inv cx β n env H F a w) {o:Oper} {t:TypeId} {x y:Operand} (ho:o.op= .store t x y) {K:KT} (hp:stwp cx n env H F o.dst t x y K) {K':Act->World->Prop} (hk: ∀a w,AfterE cx β n K a w->K' a w) {Q:Exit->Act->World->Prop}:o.wpIn cx.fence 0 cx.P a w K' Q:=by
 unfold stwp at hp
 split at hp
 ·rename_i i s u hi hx hy hdst
  have ti:=g.ti hi
  obtain ⟨h1,h2⟩:=h.ev hx
  obtain ⟨h3,h4⟩:=h.ev hy
  split at hp
  ·rename_i ys hys
   have hcl:=z_mX hys β
   split at hp
   ·rename_i hsz hone
    have hsz':ys.length=i.size:=Nat.eq_of_beq_eq_true hsz
    have hcsz:(u.val β).cells.size=i.size:=by rw [<-Array.length_toList,hcl,List.length_map,hsz']
    have hput:a.put o.dst undef=a:=by rw [hdst];rfl
    split at hp
    ·rename_i id off
     split at hp
     ·rename_i cs hc
      split at hp
      ·rename_i hle
       have hle':off+ys.length<=cs.length:=Nat.le_of_ble_eq_true hle
       obtain ⟨b,hb,hbi,hbc⟩:=z_hY hc
       have hblk:=h.sat.blk b hb
       rw [hbi,hbc] at hblk
       obtain ⟨w',e1,e2,e3,e4⟩:=z_c5 (P:=cx.P) (β id) b.ty (ys.map (SL.val β)) off 0 w (cs.map (SL.val β)) hblk (fun v hv=>by obtain ⟨y',hy',rfl⟩:=List.mem_map.1 hv;exact SL.one_cell (z_uf hone y' hy') β) (by simp only [List.length_map];omega)
       refine z_qy (w':=w') ?_ (notDefer ho (fun _ q=>by cases q)) ?_
       ·have e5:(Instr.storeAt t (a.eval x) (a.eval y)).run cx.P w= .ok () w':=by
         rw [h1,h3]
         show (Instr.storeAt t (.pointer (some ⟨β id,off,none⟩)) (u.val β)).run cx.P w= .ok () w'
         simp only [Instr.storeAt,Instr.sureAddr,pure_bind]
         rw [z_nr ti hcsz,hcl]
         exact e1
        simp only [execOp,ho,Sem.run_bind,e5,Result.andThen_ok,Sem.run_pure]
       ·rw [hput]
        refine hk _ _ ⟨β,n,env,_,F,Agr.refl _ _,Nat.le_refl _,h.mem (h.sat.set (z_r2 hys h4) ⟨b.ty,⟨b,hb,hbi,rfl,hbc⟩,?_⟩ e3),hp⟩
        rw [e2,z_nj,Nat.add_zero]
      ·exact hp.elim
     ·exact hp.elim
    ·rename_i ad
     obtain ⟨F',hf,hK⟩:=hp
     obtain ⟨w',e1,e2⟩:=hf β w h.sat
     refine z_qy (w':=w') ?_ (notDefer ho (fun _ q=>by cases q)) ?_
     ·have e5:(Instr.storeAt t (a.eval x) (a.eval y)).run cx.P w= .ok () w':=by
       rw [h1,h3]
       show (Instr.storeAt t (.pointer (some ad)) (u.val β)).run cx.P w= .ok () w'
       simp only [Instr.storeAt,Instr.sureAddr,pure_bind]
       rw [z_nr ti hcsz,hcl]
       exact e1
      simp only [execOp,ho,Sem.run_bind,e5,Result.andThen_ok,Sem.run_pure]
     ·rw [hput]
      exact hk _ _ ⟨β,n,env,H,F',Agr.refl _ _,Nat.le_refl _,h.mem e2,hK⟩
    ·exact hp.elim
   ·exact hp.elim
  ·exact hp.elim
 ·exact hp.elim
end
end Go.Proofs.YtfomhhkoamapmaaGreatDoor.Sx
namespace Go.Proofs.YtfomhhkoamapmaaGreatDoor.Sx
open Go
def rowF (e:TypeId) (size:Nat) (v:Value) (k:Nat) (xs:List Value):Fact where
 own:=true
 D:=fun g=>v.ownBlock=some g
 p:=fun w=>w.ownsRow 0 e size v k xs
 st:=fun w w' hs h=>by
  refine ⟨h.1,?_⟩
  rcases h.2 with h2 | ⟨g,cap,cur,rfl,hb,hg,r⟩
  ·exact .inl h2
  ·exact .inr ⟨g,cap,cur,rfl,hb,by rw [hs g rfl];exact hg,r⟩
def rdF (size:Nat) (A:Option Addr) (k:Nat) (xs:List Value):Fact where
 own:=false
 D:=fun g=>0<k*size/\ ∃ad,A=some ad/\ad.block=g
 p:=fun w=>Rd size A k xs w
 st:=fun w w' hs h=>by
  refine ⟨h.1,fun hk=>?_⟩
  obtain ⟨ad,e,hc⟩:=h.2 hk
  refine ⟨ad,e,fun j u hu=>?_⟩
  rw [<-hc j u hu]
  have hb:(ad.add j).block=ad.block:=by unfold Addr.add;split<;>rfl
  refine World.cell?_of_block ?_
  rw [hb]
  have:j<xs.length:=(List.getElem?_eq_some_iff.1 hu).1
  exact hs _ ⟨by rw [<-h.1];omega,ad,e,rfl⟩
def bkF (b:Nat) (ty:TypeId) (cs:List Value):Fact where
 own:=true
 D:=fun g=>g=b
 p:=fun w=>w.heap[b]?=some (.cells cs.toArray ty (0,0))
 st:=fun w w' hs h=>by rw [hs b rfl];exact h
theorem Chg.of_grown {w w':World} {row:Option Nat} (h:w.grownBy w' row):Chg (fun k=>row=some k) w w':=
 ⟨h.os,h.tape,h.output,h.size,fun k hk hn=>h.block k hk (fun q=>hn q.symm)⟩
theorem z_aj {w:World} {e:TypeId} {size:Nat} {A:Option Addr} {k c:Nat} {xs:List Value} (h:w.ownsRow 0 e size (.slice A k c) k xs):Rd size A k xs w:=by
 refine ⟨h.1,fun hk=>?_⟩
 rcases h.2 with ⟨he,h0⟩ | ⟨g,cap,cur,he,_⟩
 ·omega
 ·have hA:A=some ⟨g,0,none⟩:=by injection he
  subst hA
  exact ⟨_,rfl,h.cells (g:=g) rfl⟩
section
variable {cx:Cx} {β:Va} {n:Nat} {env:Env} {H:List Bk} {F:List Fact} {a:Act} {w w':World}
theorem z_pg {P:Program} (w:World) (t ty e:TypeId) (i:TypeInfo) (ht:P.underlying t=some (.slice e)) (hi:P.info? e=some i)
  {v:Value} {k:Nat} {xs:List Value} {size:Nat} (hown:w.ownsRow 0 e size v k xs) (c:Nat):(Builtin.append_ #[t,t] ty #[v,.slice none 0 c]).run P w= .ok v w:=by
 rcases hown.2 with ⟨rfl,rfl⟩ | ⟨g,cap,cur,rfl,_,_,hnc,_⟩
 ·simp [Builtin.append_,run_underlying ht,sizeOf,typeInfo,hi,Builtin.lenOf,Builtin.firstCells]
 ·simp [Builtin.append_,run_underlying ht,sizeOf,typeInfo,hi,Builtin.lenOf,Builtin.firstCells,hnc,storeCells]
theorem z_qC {P:Program} (w:World) {t ty e:TypeId} {ie:TI} (ht:P.underlying t=some (.slice e)) (tie:TiOk P e ie) (hsz:0<ie.size)
  {v:Value} {k:Nat} {xs:List Value} (hown:w.ownsRow 0 e ie.size v k xs) {A:Option Addr} {m c:Nat} {news:List Value} (hr:Rd ie.size A m news w) (h1: ∀u∈news,u.oneCell'=true)
  (h63:k+m<=maxLen) (hbytes:(k+m)*ie.bytes<=140737488355328):
  ∃v' w',(Builtin.append_ #[t,t] ty #[v,.slice A m c]).run P w= .ok v' w'/\w'.ownsRow 0 e ie.size v' (k+m) (xs++news)/\w.grownBy w' v.ownBlock/\
   (v'= .slice none 0 0↔v= .slice none 0 0/\m=0)/\(v'.ownBlock=v.ownBlock\/v'.ownBlock=some w.heap.size):=by
 obtain ⟨i,z,hi,hz,hzc,his,hib⟩:=tie.row
 have hzs:z.cells.size=ie.size:=by rw [<-Array.length_toList,hzc,tie.len]
 have hnil: ∀A:Option Addr,m=0->news=[]:=fun _ h0=>List.eq_nil_of_length_eq_zero (by rw [hr.1,h0,Nat.zero_mul])
 cases A with
 | none=>
  have hm:m=0:=by
   rcases Nat.eq_zero_or_pos m with h0 | h0
   ·exact h0
   ·obtain ⟨ad,q,_⟩:=hr.2 h0;cases q
  subst hm
  have hn:=hnil none rfl
  subst hn
  exact ⟨v,w,z_pg w t ty e i ht hi hown c,by simpa using hown,World.grownBy.refl w _,by simp,.inl rfl⟩
 | some ad=>
  have hcells: ∀j u,news[j]?=some u->w.cell? (ad.add j)=some u:=by
   intro j u hu
   rcases Nat.eq_zero_or_pos m with h0 | h0
   ·rw [hnil none h0] at hu;simp at hu
   ·obtain ⟨ad',q,hc⟩:=hr.2 h0
    obtain rfl:=Option.some.inj q
    exact hc j u hu
  exact run_append_own_at (P:=P) w 0 t ty e i z ie.size ie.bytes ht hi hz his hib hzs hsz v k xs hown ad m c news hr.1 hcells h1 h63 hbytes (Nat.zero_le _)
theorem z_qE {w:World} {e:TypeId} {size:Nat} {v:Value} {k:Nat} {xs:List Value} (h:w.ownsRow 0 e size v k xs): ∃A c,v= .slice A k c/\k<=c/\c<=maxLen:=by
 rcases h.2 with ⟨rfl,rfl⟩ | ⟨g,cap,cur,rfl,_,_,h1,h2,_⟩
 ·exact ⟨none,0,rfl,Nat.le_refl _,Nat.zero_le _⟩
 ·exact ⟨_,cap,rfl,h1,h2⟩
def apwp (cx:Cx) (n:Nat) (env:Env) (H:List Bk) (F:List Fact) (dst:Option Tmp) (c:Call) (K:KT):Prop:=
 match c.args.toList,c.argTypes.toList with
 | [x,y],[t,t']=>match Nat.beq t t',lk cx.tt t,ev env x,ev env y with
  | true,some i,some (.c (.v v)),some (.c (.v (.slice A m cp)))=>match i.desc with
   | .slice e=>match lk cx.tt e with
    | some ie=>match nonzero ie.size with
     | true=> ∃(j k r:Nat) (xs ys zs:List Value),nth F j=some (rowF e ie.size v k xs)/\(∀β w,Sat cx β n H F w->Rd ie.size A m ys w)/\(∀u∈ys,u.oneCell'=true)/\k+m=r/\xs++ys=zs/\r<=maxLen/\r*ie.bytes<=140737488355328/\
       ∀A' c',r<=c'->c'<=maxLen->(A'=none->v= .slice none 0 0/\m=0)->
        put cx.N n env H (putAt F j (rowF e ie.size (.slice A' r c') r zs)) dst (.c (.v (.slice A' r c'))) K
     | false=>False
    | none=>False
   | _=>False
  | _,_,_,_=>False
 | _,_=>False
theorem z_kv {P:Program} (a:Act) (c:Call) (b:Builtin) (hb:c.callee= .builtin b) (ty:TypeId) (w w':World) (v:Value)
  (h:(builtin b c.argTypes ty (c.args.map fun | .const _=>true | _=>false) (c.args.map a.eval)).run P w= .ok (.value v) w'):
  (do let d<-resolve a.eval c ty;invoke d.target d.args:Sem Next).run P w= .ok (.value v) w':=by
 simp only [resolve,hb,Sem.run_bind,Sem.run_pure,Result.andThen_ok,invoke]
 exact h
theorem z_tI (g:Good cx) (h:Inv cx β n env H F a w) {o:Oper} {c:Call} (ho:o.op= .call c) (hb:c.callee= .builtin .append) {K:KT} (hp:apwp cx n env H F o.dst c K) {K':Act->World->Prop} (hk: ∀a w,AfterE cx β n K a w->K' a w) {Q:Exit->Act->World->Prop}:o.wpIn cx.fence 0 cx.P a w K' Q:=by
 unfold apwp at hp
 split at hp
 ·rename_i x y t t' hxs hts
  split at hp
  ·rename_i i v A m cp htt hi hx hy
   obtain rfl:=Nat.eq_of_beq_eq_true htt
   have ti:=g.ti hi
   split at hp
   ·rename_i e hd
    split at hp
    ·rename_i ie hie
     have tie:=g.ti hie
     split at hp
     ·rename_i hz
      have hsz:0<ie.size:=by
       cases hq:ie.size with
       | zero=>rw [hq] at hz;cases hz
       | succ _=>omega
      obtain ⟨j,k,r,xs,ys,zs,hj,hrd,h1,rfl,rfl,h63,hby,hK⟩:=hp
      have hmem:rowF e ie.size v k xs∈F:=List.mem_of_getElem? (by rw [<-z_aX];exact hj)
      have hown:w.ownsRow 0 e ie.size v k xs:=h.sat.fact _ hmem
      obtain ⟨v',w',e1,e2,e3,e4,e5⟩:=z_qC (P:=cx.P) (t:=t) (ty:=o.type) w (ti.real (d:= .slice _) hd rfl) tie hsz hown (hrd β w h.sat) (c:=cp) h1 h63 hby
      obtain ⟨A',c',rfl,h6,h7⟩:=z_qE e2
      have eargs:c.args.map a.eval= #[v,.slice A m cp]:=by
       apply Array.ext'
       rw [Array.toList_map,hxs]
       simp [(h.ev hx).1,(h.ev hy).1,SV.val,SL.val]
      have etys:c.argTypes= #[t,t]:=by
       apply Array.ext'
       rw [hts]
      have hput:=hK A' c' h6 h7 (fun q=>by
       subst q
       have h8:k+m=0:=by
        rcases e2.2 with ⟨_,q⟩ | ⟨g,cap,cur,q,_⟩
        ·exact q
        ·cases q
       have h9:c'=0:=by
        rcases e2.2 with ⟨q,_⟩ | ⟨g,cap,cur,q,_⟩
        ·injection q
        ·cases q
       subst h9
       exact e4.1 (by rw [h8]))
      have hs:Sat cx β n H (putAt F j (rowF e ie.size (.slice A' (k+m) c') (k+m) (xs++ys))) w':=by
       refine h.sat.upd hj rfl (Chg.of_grown e3) e2 (fun q hq=>?_)
       rcases e5 with e5 | e5
       ·exact .inl (e5.symm.trans hq)
       ·have hq':Value.ownBlock (.slice A' (k+m) c')=some q:=hq
        have:some q=some w.heap.size:=by rw [<-hq',e5]
        have hq2:q=w.heap.size:=Option.some.inj this
        have:=e2.lt q hq
        exact .inr ⟨by omega,this.2⟩
      refine z_gd (v:= .slice A' (k+m) c') (w':=w') ?_ (notDefer ho (fun _ q=>by cases q)) (hk _ _ (z_aL (s:= .c (.v (.slice A' (k+m) c'))) (h.mem hs) trivial hput))
      simp only [execOp,ho]
      refine z_kv a c .append hb o.type w w' _ ?_
      rw [eargs,etys]
      simp [builtin,e1]
     ·exact hp.elim
    ·exact hp.elim
   ·exact hp.elim
  ·exact hp.elim
 ·exact hp.elim
def repl {α:Type} (zs:List α):Nat->List α
 | 0=>[]
 | k+1=>zs++repl zs k
def allV:List SL->Option (List Value)
 | []=>some []
 | .v x::r=>match allV r with | some l=>some (x::l) | none=>none
 | .p _ _::_=>none
def bswp (cx:Cx) (n:Nat) (env:Env) (H:List Bk) (F:List Fact) (dst:Option Tmp) (t:TypeId) (len:Nat) (parts:Array (Nat×Operand)) (K:KT):Prop:=
 match lk cx.tt t with
 | some i=>match i.desc with
  | .slice e=>match lk cx.tt e with
   | some ie=>match Nat.ble (len*ie.size) 16777216,Nat.ble len 16777216 with
    | true,true=>fillwp env (places ie.size 0 len) ((repl ie.zero len).map SL.v) parts.toList fun cs=>match allV cs with
     | some vs=> ∀b,put cx.N n env H (rowF e ie.size (.slice (some ⟨b,0,none⟩) len len) len vs::F) dst (.c (.v (.slice (some ⟨b,0,none⟩) len len))) K
     | none=>False
    | _,_=>False
   | none=>False
  | _=>False
 | none=>False
theorem z_oQ: ∀ {cs:List SL} {vs:List Value},allV cs=some vs->cs=vs.map SL.v
 | [],vs,h=>by simp only [allV,Option.some.injEq] at h;subst h;rfl
 | .v x::r,vs,h=>by
  simp only [allV] at h
  split at h
  ·rename_i l hl
   obtain rfl:=Option.some.inj h
   rw [z_oQ hl];rfl
  ·cases h
 | .p _ _::_,_,h=>by cases h
theorem z_ib {α:Type} (zs:List α): ∀k,(repl zs k).length=k*zs.length
 | 0=>by simp [repl]
 | k+1=>by simp [repl,z_ib zs k,Nat.succ_mul,Nat.add_comm]
theorem z_s0 {α:Type} (zs:List α): ∀(k j:Nat),j<k*zs.length->(repl zs k)[j]?=zs[j%zs.length]?
 | 0,j,h=>by simp at h
 | k+1,j,h=>by
  simp only [repl]
  by_cases hj:j<zs.length
  ·rw [List.getElem?_append_left hj,Nat.mod_eq_of_lt hj]
  ·rw [List.getElem?_append_right (by omega),z_s0 zs k _ (by rw [Nat.succ_mul] at h;omega)]
   congr 1
   conv=>rhs;rw [show j=(j - zs.length)+zs.length by omega,Nat.add_mod_right]
theorem z_nm (z:Array Value) (k:Nat):((Array.range (k*z.size)).map (fun x=>z[x%z.size]!)).toList=repl z.toList k:=by
 refine List.ext_getElem? fun j=>?_
 by_cases hj:j<k*z.size
 ·rw [z_s0 z.toList k j (by simpa using hj)]
  have hpos:0<z.size:=by
   rcases Nat.eq_zero_or_pos z.size with h0 | h0
   ·rw [h0] at hj;simp at hj
   ·exact h0
  have hm:j%z.size<z.size:=Nat.mod_lt _ hpos
  simp [List.getElem?_range hj,hm]
 ·rw [List.getElem?_eq_none (by simp;omega),List.getElem?_eq_none (by rw [z_ib];simp;omega)]
theorem Chg.alloc (w:World) (o:Obj):Chg None_ w (w.alloc o):=⟨rfl,rfl,rfl,by simp,fun k hk _=>RowKit.Below.heap_alloc _ _ _ hk⟩
theorem z_tV (g:Good cx) (h:Inv cx β n env H F a w) {o:Oper} {t:TypeId} {len:Nat} {parts:Array (Nat×Operand)} (ho:o.op= .buildSlice t len parts) {K:KT} (hp:bswp cx n env H F o.dst t len parts K) {K':Act->World->Prop} (hk: ∀a w,AfterE cx β n K a w->K' a w) {Q:Exit->Act->World->Prop}:o.wpIn cx.fence 0 cx.P a w K' Q:=by
 unfold bswp at hp
 split at hp
 ·rename_i i hi
  have ti:=g.ti hi
  split at hp
  ·rename_i e hd
   split at hp
   ·rename_i ie hie
    have tie:=g.ti hie
    split at hp
    ·rename_i hle hle2
     have hle2':len<=16777216:=Nat.le_of_ble_eq_true hle2
     have hle':len*ie.size<=16777216:=Nat.le_of_ble_eq_true hle
     obtain ⟨cs,h1,h2,h3⟩:=z_gC (β:=β) h parts.toList _ (fun x hx=>by obtain ⟨z,_,rfl⟩:=List.mem_map.1 hx;trivial) hp
     split at h2
     ·rename_i vs hvs
      have hcs:=z_oQ hvs
      subst hcs
      obtain ⟨z,hz,hzc⟩:=tie.run_zero w
      have hzs:z.cells.size=ie.size:=by rw [<-Array.length_toList,hzc,tie.len]
      have hu:=run_underlying (ti.real (d:= .slice _) hd rfl) w
      have evs:(vs.map SL.v).map (SL.val β)=vs:=by simp [Function.comp_def,SL.val]
      rw [evs] at h3
      have hstart:(((repl ie.zero len).map SL.v).map (SL.val β)).toArray=(Array.range (len*ie.size)).map (fun x=>z.cells[x%z.cells.size]!):=by
       apply Array.ext'
       have:=z_nm z.cells len
       rw [hzs,hzc] at this
       rw [hzs,this]
       simp [Function.comp_def,SL.val]
      have hfill:Instr.fill (fun i=>some (i*ie.size,ie.size)) ((Array.range (len*ie.size)).map (fun x=>z.cells[x%z.cells.size]!)) (parts.toList.map fun q=>(q.1,a.eval q.2))=some vs.toArray:=by
       rw [<-hstart]
       refine z_ob (fun i q hq=>?_) _ _ _ h3
       rcases Nat.lt_or_ge i len with hlt | hge
       ·have:=z_m5 ie.size len 0 i hlt
        simp only [Nat.zero_add] at this
        simp only [List.getElem?_toArray,this] at hq
        exact hq
       ·have:=z_lC ie.size len 0 i hge
        simp only [List.getElem?_toArray,this] at hq
        cases hq
      have hlen:vs.length=len*ie.size:=by
       have key: ∀(parts:List (Nat×Operand)) (cs:List SL) (kk:List SL->Prop),fillwp env (places ie.size 0 len) cs parts kk-> ∃r:List SL,r.length=cs.length/\kk r:=by
        intro parts
        induction parts with
        | nil=>intro cs kk hq;exact ⟨cs,rfl,hq⟩
        | cons q r ih=>
         obtain ⟨i,x⟩:=q
         intro cs kk hq
         simp only [fillwp] at hq
         split at hq
         ·split at hq
          ·split at hq
           ·obtain ⟨r',h4,h5⟩:=ih _ _ hq
            exact ⟨r',by rw [h4,z_cL],h5⟩
           ·exact hq.elim
          ·exact hq.elim
         ·exact hq.elim
       have hsize: ∀(place:Nat->Option (Nat×Nat)) (parts:List (Nat×Value)) (cs r:Array Value),Instr.fill place cs parts=some r->r.size=cs.size:=by
        intro place parts
        induction parts with
        | nil=>intro cs r hq;simp only [Instr.fill,Option.some.injEq] at hq;rw [hq]
        | cons q rest ih=>
         obtain ⟨i,v⟩:=q
         intro cs r hq
         simp only [Instr.fill] at hq
         split at hq
         ·cases hq
         ·split at hq
          ·cases hq
          ·rw [ih _ _ hq]
           rw [<-Array.foldl_toList,Array.toList_zipIdx,z_jZ]
           simp [z_cL]
       have:=hsize _ _ _ _ hfill
       simpa using this
      have hrun:(Instr.buildSlice t len (parts.map fun q=>(q.1,a.eval q.2))).run cx.P w= .ok (.slice (some ⟨w.heap.size,0,none⟩) len len) (w.alloc (.cells vs.toArray e)):=by
       have hgt: ¬len*ie.size>2^24:=by omega
       by_cases h0:len*ie.size=0
       ·have hvs0:vs=[]:=List.eq_nil_of_length_eq_zero (by rw [hlen,h0])
        subst hvs0
        have hr0: ∀f:Nat->Value,(Array.range 0).map f= #[]:=fun f=>by apply Array.ext';simp
        have hfill':Instr.fill (fun i=>some (i*ie.size,ie.size)) #[] (parts.toList.map fun q=>(q.1,a.eval q.2))=some #[]:=by
         rw [h0,hr0] at hfill
         exact hfill
        simp [Instr.buildSlice,hu,tie.run_size,h0,hr0,hfill',newRow]
       ·have hfill':=hfill
        simp [Instr.buildSlice,hu,tie.run_size,h0,hgt,hz,hfill',newRow]
      have hs:Sat cx β n H (rowF e ie.size (.slice (some ⟨w.heap.size,0,none⟩) len len) len vs::F) (w.alloc (.cells vs.toArray e)):=by
       refine h.sat.add (Chg.alloc w _) _ ?_ (fun k hk=>?_)
       ·refine ⟨hlen,.inr ⟨w.heap.size,len,vs.toArray,rfl,Nat.zero_le _,heap_alloc_new w _,Nat.le_refl _,?_,by simpa using hlen,?_⟩⟩
        ·simp only [maxLen];omega
        ·rw [<-hlen];simp
       ·have:k=w.heap.size:=by simpa [rowF,Value.ownBlock] using hk.symm
        subst this
        simp
      refine z_gd (v:= .slice (some ⟨w.heap.size,0,none⟩) len len) (w':=w.alloc (.cells vs.toArray e)) ?_ (notDefer ho (fun _ q=>by cases q)) (hk _ _ (z_aL (s:= .c (.v (.slice (some ⟨w.heap.size,0,none⟩) len len))) (h.mem hs) trivial (h2 _)))
      simp only [execOp,ho,Sem.run_bind,hrun,Result.andThen_ok,Sem.run_pure]
     ·exact h2.elim
    ·exact hp.elim
   ·exact hp.elim
  ·exact hp.elim
 ·exact hp.elim
end
end Go.Proofs.YtfomhhkoamapmaaGreatDoor.Sx
namespace Go.Proofs.YtfomhhkoamapmaaGreatDoor.Sx
open Go
section
variable {cx:Cx} {β:Va} {n:Nat} {env:Env} {H:List Bk} {F:List Fact} {a:Act} {w w':World}
theorem z_la {P:Program} (w:World) {e:TypeId} {ie:TI} {z:Value} (hzs:z.cells.size=ie.size)
  {v:Value} {k:Nat} {xs:List Value} (hown:w.ownsRow 0 e ie.size v k xs) {m:Nat} {news:List Value} (hl:news.length=m*ie.size) (h1: ∀u∈news,u.oneCell'=true) (h63:k+m<=maxLen) (run:Result Value)
  (hN:v= .slice none 0 0->m=0->run= .ok (.slice none 0 0) w)
  (hR: ∀g cap w1,v= .slice (some ⟨g,0,none⟩) k cap->k+m<=cap->(storeCells ((⟨g,0,none⟩:Addr).add (k*ie.size)) news 0).run P w= .ok () w1->run= .ok (.slice (some ⟨g,0,none⟩) (k+m) cap) w1)
  (hG: ∀base cap,v= .slice base k cap->cap<k+m->(Builtin.firstCells ie.size k v).run P w.drew= .ok xs.toArray w.drew->
   run= .ok (.slice (some ⟨w.heap.size,0,none⟩) (k+m) (grownCap w (k+m) cap e)) (w.drew.alloc (.cells ((xs++news).toArray++Builtin.zeroCells z.cells (grownCap w (k+m) cap e - (k+m))) e))):
  ∃v' w',run= .ok v' w'/\w'.ownsRow 0 e ie.size v' (k+m) (xs++news)/\w.grownBy w' v.ownBlock/\
   (v'= .slice none 0 0↔v= .slice none 0 0/\m=0)/\(v'.ownBlock=v.ownBlock\/v'.ownBlock=some w.heap.size):=by
 have hlen:(xs++news).length=(k+m)*ie.size:=by rw [List.length_append,hown.1,hl,Nat.add_mul]
 have grown: ∀(old:Nat),∀(row:Option Nat),
   (w.drew.alloc (.cells ((xs++news).toArray++Builtin.zeroCells z.cells (grownCap w (k+m) old e - (k+m))) e)).ownsRow 0 e ie.size
    (.slice (some ⟨w.heap.size,0,none⟩) (k+m) (grownCap w (k+m) old e)) (k+m) (xs++news)/\
   w.grownBy (w.drew.alloc (.cells ((xs++news).toArray++Builtin.zeroCells z.cells (grownCap w (k+m) old e - (k+m))) e)) row:=by
  intro old row
  have hge:=grownCap_ge w (k+m) old e
  have hcm:grownCap w (k+m) old e<=maxLen:=grownCap_le_maxLen w (k+m) old e h63
  refine ⟨⟨hlen,.inr ⟨w.heap.size,_,_,rfl,Nat.zero_le _,heap_alloc_new w.drew _,hge,hcm,?_,?_⟩⟩,⟨rfl,rfl,rfl,by simp,fun j hj _=>heap_alloc_old w.drew _ hj⟩⟩
  ·rw [Array.size_append,List.size_toArray,size_zeroCells,hzs,hlen,<-Nat.add_mul]
   congr 1
   omega
  ·rw [Array.toList_append,<-hlen]
   exact List.take_left
 rcases hown.2 with ⟨rfl,rfl⟩ | ⟨g,cap,cur,rfl,_,hg,hnc,hcm,hcs,htake⟩
 ·have hx:xs=[]:=List.eq_nil_of_length_eq_zero (by simpa using hown.1)
  subst hx
  by_cases hm:m=0
  ·subst hm
   have hn:news=[]:=List.eq_nil_of_length_eq_zero (by simpa using hl)
   subst hn
   exact ⟨_,_,hN rfl rfl,World.ownsRow_nil w 0 e ie.size,World.grownBy.refl w _,by simp,.inl rfl⟩
  ·have hr:=hG none 0 rfl (by omega) (by simp [Builtin.firstCells])
   have hgr:=grown 0 (Value.ownBlock (.slice none 0 0))
   exact ⟨_,_,hr,hgr.1,hgr.2,by simp [hm],.inr rfl⟩
 ·by_cases hroom:k+m<=cap
  ·have hfit:k*ie.size+news.length<=cur.toList.length:=by rw [hl,Array.length_toList,hcs,<-Nat.add_mul];exact Nat.mul_le_mul_right _ hroom
   obtain ⟨w1,e1,e2,e3,_⟩:=z_c5 (P:=P) g e news (k*ie.size) 0 w cur.toList (by simpa using hg) h1 (by omega)
   rw [Nat.add_zero] at e2
   have hr:=hR g cap w1 rfl hroom (by rw [z_bk,Nat.zero_add];exact e1)
   refine ⟨_,_,hr,⟨hlen,.inr ⟨g,cap,_,rfl,Nat.zero_le _,e2,hroom,hcm,?_,?_⟩⟩,⟨e3.os,e3.tape,e3.output,e3.size,fun j hj hne=>e3.same j hj (fun q=>hne (by subst q;rfl))⟩,by simp,.inl rfl⟩
   ·rw [List.size_toArray,z_cL,Array.length_toList,hcs]
   ·rw [List.toList_toArray]
    have hpa:putAll cur.toList (k*ie.size) news=cur.toList.take (k*ie.size)++news++cur.toList.drop (k*ie.size+news.length):=by
     have key: ∀(ys l:List Value) (o:Nat),o+ys.length<=l.length->putAll l o ys=l.take o++ys++l.drop (o+ys.length):=by
      intro ys
      induction ys with
      | nil=>intro l o h;simp [putAll]
      | cons y ys ih=>
       intro l o h
       simp only [List.length_cons] at h
       rw [putAll,ih _ _ (by rw [z_aT,List.length_set];omega),z_aT]
       rw [List.take_set,List.drop_set_of_lt (by omega)]
       rw [List.take_succ_eq_append_getElem (by omega),List.set_append_right _ _ (by simp;omega)]
       have e1:o - (List.take o l).length=0:=by simp;omega
       rw [e1,List.set_cons_zero,List.length_cons,show o+1+ys.length=o+(ys.length+1) by omega]
       simp
     exact key _ _ _ hfit
    rw [hpa,htake,<-hlen]
    exact List.take_left
  ·have hold:(Builtin.firstCells ie.size k (.slice (some ⟨g,0,none⟩) k cap)).run P w.drew= .ok xs.toArray w.drew:=by
    have:=run_firstCells_some (P:=P) w.drew ie.size k ⟨g,0,none⟩ k cap xs hown.1 (by simpa using hown.cells (g:=g) rfl)
    exact this
   have hr:=hG (some ⟨g,0,none⟩) cap rfl (by omega) hold
   have hgr:=grown cap (Value.ownBlock (.slice (some ⟨g,0,none⟩) k cap))
   exact ⟨_,_,hr,hgr.1,hgr.2,by simp,.inr rfl⟩
theorem z_pv {P:Program} (w:World) {t tx e:TypeId} (ty:TypeId) {ie:TI} (ht:P.underlying t=some (.slice e)) (htx:P.underlying tx=some .string) (tie:TiOk P e ie) (hsz:ie.size=1)
  {v:Value} {k:Nat} {xs:List Value} (hown:w.ownsRow 0 e ie.size v k xs) (s:ByteArray) (h63:k+s.size<=maxLen) (hbytes:(k+s.size)*ie.bytes<=140737488355328):
  ∃v' w',(Builtin.append_ #[t,tx] ty #[v,.string s]).run P w= .ok v' w'/\w'.ownsRow 0 e ie.size v' (k+s.size) (xs++s.data.toList.map byte)/\w.grownBy w' v.ownBlock/\
   (v'= .slice none 0 0↔v= .slice none 0 0/\s.size=0)/\(v'.ownBlock=v.ownBlock\/v'.ownBlock=some w.heap.size):=by
 obtain ⟨i,z,hi,hz,hzc,his,hib⟩:=tie.row
 have hzs:z.cells.size=ie.size:=by rw [<-Array.length_toList,hzc,tie.len]
 have hs:Src P i.size tx (.string s) s.size (s.data.toList.map byte) w:=by rw [his,hsz];exact Src.ofString w htx s
 refine z_la (P:=P) w hzs hown (by rw [<-his];exact hs.newsLen) hs.one h63 _ (fun hv hm=>?_) (fun g cap w1 hv hroom hst=>?_) (fun base cap hv hg hold=>?_)
 ·subst hv
  have hc:=hs.cells
  rw [hm] at hc
  simp [Builtin.append_,run_underlying ht,run_underlying htx,sizeOf,typeInfo,hi,hs.len,hm,hc]
 ·subst hv
  have hc:=hs.cells
  simp [Builtin.append_,run_underlying ht,run_underlying htx,sizeOf,typeInfo,hi,hs.len,hroom,hc]
  rw [his]
  simp [hst]
 ·subst hv
  have:=run_append_grow_src (P:=P) w t tx ty e i z ht hi hz base k cap xs (by rw [his];exact hold) (.string s) s.size _ hs hg (by have:maxLen=9223372036854775807:=(by decide);omega) (by rw [hib];exact growslice_fits hg hbytes)
  exact this
theorem z_sE {zs:List Value} (h: ∀u∈zs,u.oneCell'=true): ∀k,∀u∈repl zs k,u.oneCell'=true
 | 0,u,hu=>by cases hu
 | k+1,u,hu=>by
  simp only [repl] at hu
  rcases List.mem_append.1 hu with hu | hu
  ·exact h u hu
  ·exact z_sE h k u hu
theorem z_oW {P:Program} (w:World) {t tx e:TypeId} (ty:TypeId) {ie:TI} {kx kn:IntKind} (ht:P.underlying t=some (.slice e)) (htx:P.underlying tx=some (.int kx)) (tie:TiOk P e ie) (hsz:0<ie.size)
  {v:Value} {k:Nat} {xs:List Value} (hown:w.ownsRow 0 e ie.size v k xs) (m:Nat) (h1: ∀u∈ie.zero,u.oneCell'=true) (h63:k+m<=maxLen) (hbytes:(k+m)*ie.bytes<=140737488355328):
  ∃v' w',(Builtin.append_ #[t,tx] ty #[v,.int kn m]).run P w= .ok v' w'/\w'.ownsRow 0 e ie.size v' (k+m) (xs++repl ie.zero m)/\w.grownBy w' v.ownBlock/\
   (v'= .slice none 0 0↔v= .slice none 0 0/\m=0)/\(v'.ownBlock=v.ownBlock\/v'.ownBlock=some w.heap.size):=by
 obtain ⟨i,z,hi,hz,hzc,his,hib⟩:=tie.row
 have hzs:z.cells.size=ie.size:=by rw [<-Array.length_toList,hzc,tie.len]
 have hm63:(m:Int)<=9223372036854775807:=by
  have:maxLen=9223372036854775807:=by decide
  omega
 have hw:IntKind.i64.wrap (m:Int)=m:=by rw [IntKind.wrap_i64];omega
 have hneg: ¬((m:Int)<0):=by omega
 have hmb:m*ie.bytes<=140737488355328:=Nat.le_trans (Nat.mul_le_mul_right _ (Nat.le_add_left m k)) hbytes
 have h48i: ¬(281474976710656<(m:Int)*(i.bytes:Int)):=by
  rw [hib,<-Int.natCast_mul]
  omega
 have hcells:Builtin.zeroCells z.cells m=(repl ie.zero m).toArray:=by
  apply Array.ext'
  have:=z_nm z.cells m
  rw [hzc] at this
  simpa [Builtin.zeroCells] using this
 refine z_la (P:=P) w hzs hown (by rw [z_ib,tie.len]) (z_sE h1 m) h63 _ (fun hv hm=>?_) (fun g cap w1 hv hroom hst=>?_) (fun base cap hv hg hold=>?_)
 ·subst hv hm
  have hw0:IntKind.i64.wrap 0=0:=rfl
  simp [Builtin.append_,run_underlying ht,run_underlying htx,sizeOf,typeInfo,hi,asInt,asIntOf,hw0]
 ·subst hv
  rcases Nat.eq_zero_or_pos m with rfl | hm
  ·simp [Builtin.append_,run_underlying ht,run_underlying htx,sizeOf,typeInfo,hi,asInt,asIntOf,hw]
   have hw0:IntKind.i64.wrap 0=0:=rfl
   simp [hw0] at hroom ⊢
   simp [repl,storeCells] at hst
   simp [hroom,hst,storeCells]
  ·have hne: ¬(m=0\/ie.size=0):=by omega
   simp [Builtin.append_,run_underlying ht,run_underlying htx,sizeOf,typeInfo,zeroValue,hi,hz,asInt,asIntOf,hw,hneg,h48i,hroom,hcells,his,hne,hst]
   intro h0
   exact absurd (Nat.mul_eq_zero.1 h0) hne
 ·subst hv
  have hn: ¬(k+m<=cap):=by omega
  have hmax:maxLen=9223372036854775807:=by decide
  have h63': ¬(9223372036854775807<((k:Int)+(m:Int))):=by omega
  have hfit:Builtin.nextslicecap (k+m) cap*i.bytes<=281474976710656:=by rw [hib];exact growslice_fits hg hbytes
  have h48': ¬(281474976710656<Builtin.nextslicecap (k+m) cap*i.bytes):=by omega
  have hcap:k<=cap:=by
   obtain ⟨A,c,q,q1,_⟩:=z_qE hown
   cases q
   exact q1
  have hm0: ¬(m*ie.size=0):=fun q=>by
   rcases Nat.mul_eq_zero.1 q with q | q<;>omega
  simp [Builtin.append_,run_underlying ht,run_underlying htx,sizeOf,typeInfo,zeroValue,hi,hz,asInt,asIntOf,hw,hneg,h48i,hn,h63',h48',Question.forced,his,hold,hcells,newRow,grownCap]
  rw [if_neg hm0]
  congr 2
  apply congrArg (fun x=>Obj.cells x e)
  apply Array.ext'
  simp [List.append_assoc]
def apxNew (d:TD) (ie:TI) (u:Value) (m:Nat) (ys:List Value):Prop:=match d,u with
 | .string,.string s=>ie.size=1/\m=s.size/\ys=s.data.toList.map byte
 | .int _,.int _ z=>z=(m:Int)/\ys=repl ie.zero m/\ ∀u∈ie.zero,u.oneCell'=true
 | _,_=>False
def apxwp (cx:Cx) (n:Nat) (env:Env) (H:List Bk) (F:List Fact) (dst:Option Tmp) (c:Call) (K:KT):Prop:=
 match c.args.toList,c.argTypes.toList with
 | [x,y],[t,t']=>match lk cx.tt t,lk cx.tt t',ev env x,ev env y with
  | some i,some i',some (.c (.v v)),some (.c (.v u))=>match i.desc with
   | .slice e=>match lk cx.tt e with
    | some ie=>match nonzero ie.size with
     | true=> ∃(j k m r:Nat) (xs ys zs:List Value),nth F j=some (rowF e ie.size v k xs)/\apxNew i'.desc ie u m ys/\k+m=r/\xs++ys=zs/\r<=maxLen/\r*ie.bytes<=140737488355328/\
       ∀A' c',r<=c'->c'<=maxLen->(A'=none->v= .slice none 0 0/\m=0)->
        put cx.N n env H (putAt F j (rowF e ie.size (.slice A' r c') r zs)) dst (.c (.v (.slice A' r c'))) K
     | false=>False
    | none=>False
   | _=>False
  | _,_,_,_=>False
 | _,_=>False
theorem z_ug {t t' e ty:TypeId} {i i' ie:TI} (ti:TiOk cx.P t i) (ti':TiOk cx.P t' i') (tie:TiOk cx.P e ie) (hd:i.desc= .slice e) (hsz:0<ie.size) {v u:Value} {k m:Nat} {xs ys:List Value} (hn:apxNew i'.desc ie u m ys) (hown:w.ownsRow 0 e ie.size v k xs) (h63:k+m<=maxLen) (hbytes:(k+m)*ie.bytes<=140737488355328):
  ∃v' w',(Builtin.append_ #[t,t'] ty #[v,u]).run cx.P w= .ok v' w'/\w'.ownsRow 0 e ie.size v' (k+m) (xs++ys)/\w.grownBy w' v.ownBlock/\
   (v'= .slice none 0 0↔v= .slice none 0 0/\m=0)/\(v'.ownBlock=v.ownBlock\/v'.ownBlock=some w.heap.size):=by
 have ht:=ti.real (d:= .slice _) hd rfl
 unfold apxNew at hn
 split at hn
 ·rename_i s hd'
  obtain ⟨h1,rfl,rfl⟩:=hn
  exact z_pv (P:=cx.P) w ty ht (ti'.real (d:= .string) hd' rfl) tie h1 hown s h63 hbytes
 ·rename_i kx kn z hd'
  obtain ⟨rfl,rfl,h1⟩:=hn
  exact z_oW (P:=cx.P) w ty ht (ti'.real (d:= .int kx) hd' rfl) tie hsz hown m h1 h63 hbytes
 ·exact hn.elim
theorem z_r4 (g:Good cx) (h:Inv cx β n env H F a w) {o:Oper} {c:Call} (ho:o.op= .call c) (hb:c.callee= .builtin .append) {K:KT} (hp:apxwp cx n env H F o.dst c K) {K':Act->World->Prop} (hk: ∀a w,AfterE cx β n K a w->K' a w) {Q:Exit->Act->World->Prop}:o.wpIn cx.fence 0 cx.P a w K' Q:=by
 unfold apxwp at hp
 split at hp
 ·rename_i x y t t' hxs hts
  split at hp
  ·rename_i i i' v u hi hi' hx hy
   have ti:=g.ti hi
   split at hp
   ·rename_i e hd
    split at hp
    ·rename_i ie hie
     have tie:=g.ti hie
     split at hp
     ·rename_i hz
      have hsz:0<ie.size:=by
       cases hq:ie.size with
       | zero=>rw [hq] at hz;cases hz
       | succ _=>omega
      obtain ⟨j,k,m,r,xs,ys,zs,hj,hnew,rfl,rfl,h63,hby,hK⟩:=hp
      have hmem:rowF e ie.size v k xs∈F:=List.mem_of_getElem? (by rw [<-z_aX];exact hj)
      have hown:w.ownsRow 0 e ie.size v k xs:=h.sat.fact _ hmem
      obtain ⟨v',w',e1,e2,e3,e4,e5⟩:=z_ug (ty:=o.type) ti (g.ti hi') tie hd hsz hnew hown h63 hby
      obtain ⟨A',c',rfl,h6,h7⟩:=z_qE e2
      have eargs:c.args.map a.eval= #[v,u]:=by
       apply Array.ext'
       rw [Array.toList_map,hxs]
       simp [(h.ev hx).1,(h.ev hy).1,SV.val,SL.val]
      have etys:c.argTypes= #[t,t']:=by
       apply Array.ext'
       rw [hts]
      have hput:=hK A' c' h6 h7 (fun q=>by
       subst q
       have h8:k+m=0:=by
        rcases e2.2 with ⟨_,q⟩ | ⟨g,cap,cur,q,_⟩
        ·exact q
        ·cases q
       have h9:c'=0:=by
        rcases e2.2 with ⟨q,_⟩ | ⟨g,cap,cur,q,_⟩
        ·injection q
        ·cases q
       subst h9
       exact e4.1 (by rw [h8]))
      have hs:Sat cx β n H (putAt F j (rowF e ie.size (.slice A' (k+m) c') (k+m) (xs++ys))) w':=by
       refine h.sat.upd hj rfl (Chg.of_grown e3) e2 (fun q hq=>?_)
       rcases e5 with e5 | e5
       ·exact .inl (e5.symm.trans hq)
       ·have hq':Value.ownBlock (.slice A' (k+m) c')=some q:=hq
        have:some q=some w.heap.size:=by rw [<-hq',e5]
        have hq2:q=w.heap.size:=Option.some.inj this
        have:=e2.lt q hq
        exact .inr ⟨by omega,this.2⟩
      refine z_gd (v:= .slice A' (k+m) c') (w':=w') ?_ (notDefer ho (fun _ q=>by cases q)) (hk _ _ (z_aL (s:= .c (.v (.slice A' (k+m) c'))) (h.mem hs) trivial hput))
      simp only [execOp,ho]
      refine z_kv a c .append hb o.type w w' _ ?_
      rw [eargs,etys]
      simp [builtin,e1]
     ·exact hp.elim
    ·exact hp.elim
   ·exact hp.elim
  ·exact hp.elim
 ·exact hp.elim
end
end Go.Proofs.YtfomhhkoamapmaaGreatDoor.Sx
namespace Go.Proofs.YtfomhhkoamapmaaGreatDoor.Sx
open Go
section
variable {cx:Cx} {β:Va} {n:Nat} {env:Env} {H:List Bk} {F:List Fact} {a:Act} {w w':World}
theorem maxLen_eq:maxLen=9223372036854775807:=by decide
theorem z_q3 {α:Type} (zs:List α): ∀ {l c:Nat},l<=c->(repl zs c).take (l*zs.length)=repl zs l
 | 0,c,_=>by simp [repl]
 | l+1,0,h=>by omega
 | l+1,c+1,h=>by
  simp only [repl]
  rw [Nat.succ_mul,Nat.add_comm,List.take_length_add_append,z_q3 zs (by omega)]
def mkwp (cx:Cx) (n:Nat) (env:Env) (H:List Bk) (F:List Fact) (dst:Option Tmp) (t:TypeId) (x y:Operand) (K:KT):Prop:=
 match lk cx.tt t,ev env x,ev env y with
 | some i,some (.c (.v (.int _ L))),some (.c (.v (.int _ C)))=>match i.desc with
  | .slice e=>match lk cx.tt e with
   | some ie=> ∃l c:Nat,L=(l:Int)/\C=(c:Int)/\l<=c/\ie.bytes*c<=281474976710656/\c<=maxLen/\
     ∀b,put cx.N n env H (rowF e ie.size (.slice (some ⟨b,0,none⟩) l c) l (repl ie.zero l)::F) dst (.c (.v (.slice (some ⟨b,0,none⟩) l c))) K
   | none=>False
  | _=>False
 | _,_,_=>False
theorem z_tK (g:Good cx) (h:Inv cx β n env H F a w) {o:Oper} {t:TypeId} {x y:Operand} (ho:o.op= .makeSlice t x y) {K:KT} (hp:mkwp cx n env H F o.dst t x y K) {K':Act->World->Prop} (hk: ∀a w,AfterE cx β n K a w->K' a w) {Q:Exit->Act->World->Prop}:o.wpIn cx.fence 0 cx.P a w K' Q:=by
 unfold mkwp at hp
 split at hp
 ·rename_i i kl L kc C hi hx hy
  have ti:=g.ti hi
  split at hp
  ·rename_i e hd
   split at hp
   ·rename_i ie hie
    have tie:=g.ti hie
    obtain ⟨l,c,rfl,rfl,h1,h2,h3,hK⟩:=hp
    obtain ⟨r,z,hr,hz,hzc,hrs,hrb⟩:=tie.row
    have hzs:z.cells.size=ie.size:=by rw [<-Array.length_toList,hzc,tie.len]
    have h5:(ie.bytes:Int)*(c:Int)<=281474976710656:=by
     have h4:((ie.bytes*c:Nat):Int)<=281474976710656:=by omega
     rwa [Int.natCast_mul] at h4
    have hrun:=run_make (P:=cx.P) w t e r z (ti.real (d:= .slice _) hd rfl) hr hz kl kc l c (by omega) (by omega) (by rw [hrb];exact h5) (by rw [maxLen_eq] at h3;omega)
    simp only [Int.toNat_natCast,hrs] at hrun
    have hmc:(madeCells z.cells (c*ie.size)).toList=repl ie.zero c:=by
     have:=z_nm z.cells c
     rw [hzc,hzs] at this
     rw [<-this]
     simp only [madeCells,hzs]
    have hs:Sat cx β n H (rowF e ie.size (.slice (some ⟨w.heap.size,0,none⟩) l c) l (repl ie.zero l)::F) (w.alloc (.cells (madeCells z.cells (c*ie.size)) e)):=by
     refine h.sat.add (Chg.alloc w _) _ ?_ (fun k hk=>?_)
     ·refine ⟨by rw [z_ib,tie.len],.inr ⟨w.heap.size,c,_,rfl,Nat.zero_le _,heap_alloc_new w _,h1,h3,size_madeCells _ _,?_⟩⟩
      rw [hmc,<-tie.len]
      exact z_q3 _ h1
     ·have:k=w.heap.size:=by simpa [rowF,Value.ownBlock] using hk.symm
      subst this
      simp
    refine z_gd (v:= .slice (some ⟨w.heap.size,0,none⟩) l c) (w':=w.alloc (.cells (madeCells z.cells (c*ie.size)) e)) ?_ (notDefer ho (fun _ q=>by cases q)) (hk _ _ (z_aL (s:= .c (.v (.slice (some ⟨w.heap.size,0,none⟩) l c))) (h.mem hs) trivial (hK _)))
    have e1:a.eval x= .int kl (l:Int):=(h.ev hx).1
    have e2:a.eval y= .int kc (c:Int):=(h.ev hy).1
    simp only [execOp,ho,e1,e2,Sem.run_bind,hrun,Result.andThen_ok,Sem.run_pure]
   ·exact hp.elim
  ·exact hp.elim
 ·exact hp.elim
def rdoF (size:Nat) (A:Option Addr) (k:Nat) (xs:List Value):Fact:=⟨true,(rdF size A k xs).D,(rdF size A k xs).p,(rdF size A k xs).st⟩
def sbwp (cx:Cx) (n:Nat) (env:Env) (H:List Bk) (F:List Fact) (dst:Option Tmp) (src t:TypeId) (x:Operand) (K:KT):Prop:=
 match lk cx.tt src,lk cx.tt t,ev env x with
 | some _,some i,some (.c (.v (.string s)))=>match i.desc with
  | .slice e=>match lk cx.tt e with
   | some ie=>match ie.desc with
    | .int .u8=> ∀b c,s.size<=c->(s.size<=maxLen->c<=maxLen)->put cx.N n env H (rdoF 1 (some ⟨b,0,none⟩) s.size (s.data.toList.map byte)::F) dst (.c (.v (.slice (some ⟨b,0,none⟩) s.size c))) K
    | _=>False
   | none=>False
  | _=>False
 | _,_,_=>False
theorem z_tS (g:Good cx) (h:Inv cx β n env H F a w) {o:Oper} {src t:TypeId} {x:Operand} (ho:o.op= .convert src t x) {K:KT} (hp:sbwp cx n env H F o.dst src t x K) {K':Act->World->Prop} (hk: ∀a w,AfterE cx β n K a w->K' a w) {Q:Exit->Act->World->Prop}:o.wpIn cx.fence 0 cx.P a w K' Q:=by
 unfold sbwp at hp
 split at hp
 ·rename_i j i s hj hi hx
  have ti:=g.ti hi
  have tj:=g.ti hj
  split at hp
  ·rename_i e hd
   split at hp
   ·rename_i ie hie
    have tie:=g.ti hie
    split at hp
    ·rename_i hde
     have e1:a.eval x= .string s:=(h.ev hx).1
     obtain ⟨dj,hju,_⟩:=Option.map_eq_some_iff.1 tj.under
     have hrun:=Lib.run_convert_string_bytes (P:=cx.P) w src t e s hju (ti.real (d:= .slice _) hd rfl) (tie.real (d:= .int _) hde rfl)
     have hc:Chg None_ w (Lib.bytesWorld w e s):=by
      exact ⟨rfl,rfl,rfl,by rw [Lib.bytesWorld_size];omega,fun k hk _=>Lib.bytesWorld_at_old w e s k hk⟩
     have hs:Sat cx β n H (rdoF 1 (some ⟨w.heap.size,0,none⟩) s.size (s.data.toList.map byte)::F) (Lib.bytesWorld w e s):=by
      refine h.sat.add hc _ ⟨by simp,fun _=>⟨_,rfl,fun j u hj=>?_⟩⟩ (fun k hk=>?_)
      ·rw [z_bk,Nat.zero_add]
       have hjl:j<s.size:=by have:=(List.getElem?_eq_some_iff.1 hj).1;simpa using this
       rw [Lib.bytesWorld_cell w e s j hjl]
       rw [List.getElem?_map] at hj
       obtain ⟨q,hq,rfl⟩:=Option.map_eq_some_iff.1 hj
       simp [byte,List.getD,hq]
      ·obtain ⟨_,ad,he,rfl⟩:=hk
       obtain rfl:=Option.some.inj he
       rw [Lib.bytesWorld_size]
       simp
     have hcap:=grownCap_ge w s.size 0 e
     have hcm:=fun hm=>grownCap_le_maxLen w s.size 0 e hm
     refine z_gd (v:= .slice (some ⟨w.heap.size,0,none⟩) s.size (grownCap w s.size 0 e)) (w':=Lib.bytesWorld w e s) ?_ (notDefer ho (fun _ q=>by cases q)) (hk _ _ (z_aL (s:= .c (.v (.slice (some ⟨w.heap.size,0,none⟩) s.size (grownCap w s.size 0 e)))) (h.mem hs) trivial (hp _ _ hcap hcm)))
     simp only [execOp,ho,e1,Sem.run_bind,hrun,Result.andThen_ok,Sem.run_pure]
    ·exact hp.elim
   ·exact hp.elim
  ·exact hp.elim
 ·exact hp.elim
def mmpwp (cx:Cx) (n:Nat) (env:Env) (H:List Bk) (F:List Fact) (dst:Option Tmp) (K:KT):Prop:=
 ∀b,put cx.N n env H (mapF b []::F) dst (.c (.v (.map (some b)))) K
theorem z_sg (h:Inv cx β n env H F a w) {o:Oper} {t:TypeId} (ho:o.op= .makeMap t none) {K:KT} (hp:mmpwp cx n env H F o.dst K) {K':Act->World->Prop} (hk: ∀a w,AfterE cx β n K a w->K' a w) {Q:Exit->Act->World->Prop}:o.wpIn cx.fence 0 cx.P a w K' Q:=by
 have hs:Sat cx β n H (mapF w.heap.size []::F) (w.alloc (.map #[] 0)):=by
  refine h.sat.add (Chg.alloc w _) _ ⟨[],0,heap_alloc_new w _,rfl,List.Pairwise.nil,fun _ q=>by cases q⟩ (fun k hk=>?_)
  obtain rfl:k=w.heap.size:=hk
  simp
 refine z_gd (v:= .map (some w.heap.size)) (w':=w.alloc (.map #[] 0)) ?_ (notDefer ho (fun _ q=>by cases q)) (hk _ _ (z_aL (s:= .c (.v (.map (some w.heap.size)))) (h.mem hs) trivial (hp _)))
 simp [execOp,ho,Instr.makeMap]
def muwp (cx:Cx) (n:Nat) (env:Env) (H:List Bk) (F:List Fact) (dst:Option Tmp) (t:TypeId) (m k x:Operand) (K:KT):Prop:=
 match ev env m,ev env k,ev env x,dst with
 | some sm,some sk,some sx,none=> ∃(H':List Bk) (F':Nat->List Fact),(∀β w,Sat cx β n H F w-> ∃w' y,(Instr.mapUpdate t (sm.val β) (sk.val β) (sx.val β)).run cx.P w= .ok () w'/\Sat cx β n H' (F' y) w')/\ ∀y,K n env H' (F' y)
 | _,_,_,_=>False
theorem z_pZ (h:Inv cx β n env H F a w) {o:Oper} {t:TypeId} {m k x:Operand} (ho:(execOp a.eval o)=(do Instr.mapUpdate t (a.eval m) (a.eval k) (a.eval x);pure Next.skip)) (hd: ∀c,o.op≠ .defer c) {K:KT} (hp:muwp cx n env H F o.dst t m k x K) {K':Act->World->Prop} (hk: ∀a w,AfterE cx β n K a w->K' a w) {Q:Exit->Act->World->Prop}:o.wpIn cx.fence 0 cx.P a w K' Q:=by
 unfold muwp at hp
 split at hp
 ·rename_i sm sk sx h1 h2 h3 hdst
  obtain ⟨H',F',hf,hK⟩:=hp
  obtain ⟨w',y,e1,e2⟩:=hf β w h.sat
  refine z_qy (w':=w') ?_ hd ?_
  ·rw [ho,(h.ev h1).1,(h.ev h2).1,(h.ev h3).1]
   simp only [Sem.run_bind,e1,Result.andThen_ok,Sem.run_pure]
  ·have hput:a.put o.dst undef=a:=by rw [hdst];rfl
   rw [hput]
   exact hk _ _ ⟨β,n,env,H',F' y,Agr.refl _ _,Nat.le_refl _,h.mem e2,hK y⟩
 ·exact hp.elim
theorem z_pY (w:World) (a:Addr) (k:Nat):Chg (· =a.block) w (w.freeze a k):=by
 unfold World.freeze
 split
 ·exact Chg.refl _ _
 ·exact ⟨rfl,rfl,rfl,by simp,fun i _ hi=>by
   show (w.heap.modify a.block _)[i]?=_
   rw [Array.getElem?_modify,if_neg (fun q=>hi q.symm)]⟩
theorem z_r8 (w:World) (a:Addr) (k:Nat) (b:Addr):(w.freeze a k).cell? b=w.cell? b:=by
 unfold World.freeze
 split
 ·rfl
 ·unfold World.cell?
  simp only [Array.getElem?_modify]
  by_cases h:a.block=b.block
  ·rw [if_pos h]
   cases hw:w.heap[b.block]? with
   | none=>rfl
   | some o=>cases o<;>simp
  ·rw [if_neg h]
def fzwp (cx:Cx) (n:Nat) (env:Env) (H:List Bk) (F:List Fact) (dst:Option Tmp) (src t:TypeId) (x:Operand) (K:KT):Prop:=
 match Nat.beq src t,lk cx.tt t,ev env x with
 | true,some i,some (.c (.v (.slice (some ad) m cp)))=>match i.desc with
  | .slice e=>match lk cx.tt e with
   | some ie=>match ie.desc with
    | .int .u8=> ∃(j:Nat) (xs:List Value),nth F j=some (rowF e 1 (.slice (some ad) m cp) m xs)/\put cx.N n env H (putAt F j (rdF 1 (some ad) m xs)) dst (.c (.v (.slice (some ad) m cp))) K
    | _=>False
   | none=>False
  | _=>False
 | _,_,_=>False
theorem z_tY (g:Good cx) (h:Inv cx β n env H F a w) {o:Oper} {src t:TypeId} {x:Operand} (ho:o.op= .convert src t x) {K:KT} (hp:fzwp cx n env H F o.dst src t x K) {K':Act->World->Prop} (hk: ∀a w,AfterE cx β n K a w->K' a w) {Q:Exit->Act->World->Prop}:o.wpIn cx.fence 0 cx.P a w K' Q:=by
 unfold fzwp at hp
 split at hp
 ·rename_i i ad m cp hst hi hx
  obtain rfl:=Nat.eq_of_beq_eq_true hst
  have ti:=g.ti hi
  split at hp
  ·rename_i e hd
   split at hp
   ·rename_i ie hie
    have tie:=g.ti hie
    split at hp
    ·rename_i hde
     obtain ⟨j,xs,hj,hK⟩:=hp
     have e1:a.eval x= .slice (some ad) m cp:=(h.ev hx).1
     have hown:w.ownsRow 0 e 1 (.slice (some ad) m cp) m xs:=h.sat.fact _ (List.mem_of_getElem? (by rw [<-z_aX];exact hj))
     have hrd:Rd 1 (some ad) m xs w:=z_aj hown
     rcases hown.2 with ⟨q,_⟩ | ⟨b,cap,cur,hv,_,hg,hnc,hcm,hcs,htake⟩
     ·cases q
     ·have hab:ad=⟨b,0,none⟩:=by injection hv with h1;injection h1
      subst hab
      have hsh:w.shape? b=some (e,cur.size):=by unfold World.shape?;rw [hg]
      have hu:=run_underlying (ti.real (d:= .slice _) hd rfl) w
      have hue:=run_underlying (tie.real (d:= .int _) hde rfl) w
      have hrun:(convert src src (.slice (some ⟨b,0,none⟩) m cp)).run cx.P w= .ok (.slice (some ⟨b,0,none⟩) m cp) (w.freeze ⟨b,cur.size,none⟩ 1):=by
       simp [convert,hu,hue,markStringish,hsh]
      have hs:Sat cx β n H (putAt F j (rdF 1 (some ⟨b,0,none⟩) m xs)) (w.freeze ⟨b,cur.size,none⟩ 1):=by
       refine h.sat.upd hj rfl ?_ ?_ ?_
       ·exact Chg.mono (z_pY w ⟨b,cur.size,none⟩ 1) (fun i _ q=>by subst q;rfl)
       ·refine ⟨hrd.1,fun hk=>?_⟩
        obtain ⟨ad',q,hc⟩:=hrd.2 hk
        exact ⟨ad',q,fun j u hu=>by rw [z_r8];exact hc j u hu⟩
       ·rintro k ⟨_,ad',q,rfl⟩
        obtain rfl:=Option.some.inj q
        exact .inl rfl
      refine z_gd (v:= .slice (some ⟨b,0,none⟩) m cp) (w':=w.freeze ⟨b,cur.size,none⟩ 1) ?_ (notDefer ho (fun _ q=>by cases q)) (hk _ _ (z_aL (s:= .c (.v (.slice (some ⟨b,0,none⟩) m cp))) (h.mem hs) trivial hK))
      simp only [execOp,ho,e1,Sem.run_bind,hrun,Result.andThen_ok,Sem.run_pure]
    ·exact hp.elim
   ·exact hp.elim
  ·exact hp.elim
 ·exact hp.elim
def Ret (cx:Cx) (β:Va) (n:Nat) (env:Env) (dst:Option Tmp) (K:KT) (v:Value) (w':World):Prop:=
 ∃β' n' H' F' s,Agr n β β'/\n<=n'/\SV.lt n' s/\s.val β'=v/\Sat cx β' n' H' F' w'/\put cx.N n' env H' F' dst s K
theorem Ret.mk {cx:Cx} {β:Va} {n:Nat} {env:Env} {dst:Option Tmp} {K:KT} {v:Value} {w':World} (H':List Bk) (F':List Fact) (hs:Sat cx β n H' F' w') (hk:put cx.N n env H' F' dst (ofValue v) K):Ret cx β n env dst K v w':=
 ⟨β,n,H',F',ofValue v,Agr.refl _ _,Nat.le_refl _,z_fH _ _,z_et _ _,hs,hk⟩
def svsOf (env:Env):List Operand->Option (List SV)
 | []=>some []
 | x::r=>match ev env x,svsOf env r with
  | some s,some l=>some (s::l)
  | _,_=>none
def fnOf:SV->Option (Nat×List SL×List SL)
 | .c (.v (.func (.func f) first caps))=>some (f,first.toList.map SL.v,caps.toList.map SL.v)
 | .fn (.func f) first caps=>some (f,first,caps)
 | _=>none
def yldOf:SV->Option Nat
 | .c (.v (.func (.yield l) first _))=>match first.toList with | []=>some l | _=>none
 | _=>none
def Yld (P:Program) (l:Nat) (args:Array Value) (w:World) (R:Value->World->Prop):Prop:=
 ∃f tmps assign body,(Instr.yield l args).run P w= .ok (.round l f tmps assign body) w/\RoundIn Fence.wide 0 P l f tmps assign body w (fun e w'=> ∃v,e= .returned v/\R v w')
def cawp (cx:Cx) (n:Nat) (env:Env) (H:List Bk) (F:List Fact) (dst:Option Tmp) (f:Operand) (args:List Operand) (K:KT):Prop:=
 match ev env f,svsOf env args with
 | some s,some ss=>match fnOf s with
  | some (k,first,caps)=>match memb cx.fns k with
   | true=> ∀β w,Sat cx β n H F w->Calls cx.P k (first.map (SL.val β)++(ss.map (SV.val β)++caps.map (SL.val β))).toArray w fun e w'=> ∃v,e= .returned v/\Ret cx β n env dst K v w'
   | false=>(callable cx.P k=true/\ ∀β w,Sat cx β n H F w->Calls cx.P k (first.map (SL.val β)++(ss.map (SV.val β)++caps.map (SL.val β))).toArray w fun e w'=> ∃v,e= .returned v/\Ret cx β n env dst K v w')\/
     (∀β w,Sat cx β n H F w-> ∃v w',(callFunc k (first.map (SL.val β)++(ss.map (SV.val β)++caps.map (SL.val β))).toArray).run cx.P w= .ok (.value v) w'/\Ret cx β n env dst K v w')
  | none=>match yldOf s with
   | some l=> ∀β w,Sat cx β n H F w->Yld cx.P l (ss.map (SV.val β)).toArray w fun v w'=>Ret cx β n env dst K v w'
   | none=>False
 | _,_=>False
theorem z_qk (cx:Cx) {m l:Nat} {f:FuncId} {tmps:Array Value} {x y:Code} {w:World} {R:Ending->World->Prop} (h:RoundIn Fence.wide m cx.P l f tmps x y w R):RoundIn cx.fence m cx.P l f tmps x y w R:=by
 unfold Cx.fence
 cases cx.rnd<;>exact h
theorem z_mG (cx:Cx) {m:Nat} {f:FuncId} {args:Array Value} {w:World} {R:Ending->World->Prop} (h:CallsIn Fence.wide m cx.P f args w R):CallsIn cx.fence m cx.P f args w R:=by
 unfold Cx.fence
 cases cx.rnd<;>exact h
theorem z_lO (h:Inv cx β n env H F a w): ∀(xs:List Operand) (l:List SV),svsOf env xs=some l->xs.map a.eval=l.map (SV.val β)/\ ∀x∈l,x.lt n
 | [],l,hl=>by
  simp only [svsOf,Option.some.injEq] at hl
  subst hl
  exact ⟨rfl,fun x hx=>by cases hx⟩
 | x::r,l,hl=>by
  simp only [svsOf] at hl
  split at hl
  ·rename_i y l' he hr
   obtain rfl:=Option.some.inj hl
   obtain ⟨h1,h2⟩:=z_lO h r l' hr
   obtain ⟨h3,h4⟩:=h.ev he
   refine ⟨by simp only [List.map_cons,h1,h3],fun z hz=>?_⟩
   rcases List.mem_cons.1 hz with rfl | hz
   ·exact h4
   ·exact h2 z hz
  ·cases hl
theorem z_tR (g:Good cx) (h:Inv cx β n env H F a w) {o:Oper} {c:Call} (ho:o.op= .call c) {f:Operand} (hf:c.callee= .value f) {K:KT} (hp:cawp cx n env H F o.dst f c.args.toList K) {K':Act->World->Prop} (hk: ∀a w,AfterE cx β n K a w->K' a w) {Q:Exit->Act->World->Prop}:o.wpIn cx.fence 0 cx.P a w K' Q:=by
 unfold cawp at hp
 split at hp
 ·rename_i s ss hs hss
  obtain ⟨h1,h2⟩:=h.ev hs
  obtain ⟨h3,h4⟩:=z_lO h _ _ hss
  split at hp
  ·rename_i k first caps hfn
   have hp':(callable cx.P k=true/\ ∀β w,Sat cx β n H F w->Calls cx.P k (first.map (SL.val β)++(ss.map (SV.val β)++caps.map (SL.val β))).toArray w fun e w'=> ∃v,e= .returned v/\Ret cx β n env o.dst K v w')\/
     (∀β w,Sat cx β n H F w-> ∃v w',(callFunc k (first.map (SL.val β)++(ss.map (SV.val β)++caps.map (SL.val β))).toArray).run cx.P w= .ok (.value v) w'/\Ret cx β n env o.dst K v w'):=by
    split at hp
    ·rename_i hm;exact .inl ⟨g.fn k (z_n7 hm),hp⟩
    ·exact hp
   ·have hval:s.val β= .func (.func k) (first.map (SL.val β)).toArray (caps.map (SL.val β)).toArray:=by
     unfold fnOf at hfn
     split at hfn
     ·simp only [Option.some.injEq,Prod.mk.injEq] at hfn
      obtain ⟨rfl,rfl,rfl⟩:=hfn
      simp [SV.val,SL.val,Function.comp_def]
     ·simp only [Option.some.injEq,Prod.mk.injEq] at hfn
      obtain ⟨rfl,rfl,rfl⟩:=hfn
      rfl
     ·cases hfn
    have eargs:c.args.map a.eval=(ss.map (SV.val β)).toArray:=by
     apply Array.ext'
     rw [Array.toList_map,h3]
    rcases hp' with ⟨hcall,hc⟩ | hx
    rotate_left
    ·obtain ⟨v,w',hrun,β',n',H',F',s',hb1,hn,hlt,hv,hsat,hput⟩:=hx β w h.sat
     subst hv
     have hi':Inv cx β' n' env H' F' a w':=by
      refine ⟨fun t q ht=>?_,h.size,by rw [hb1.marks];exact h.df,fun t q ht=>SV.lt_mono hn (h.lte t q ht),hsat⟩
      rw [SV.val_congr hb1 (h.lte t q ht)]
      exact h.ag t q ht
     refine z_gd (v:=s'.val β') (w':=w') ?_ (notDefer ho (fun _ q=>by cases q)) (hk _ _ ((z_aL hi' hlt hput).ext hb1 hn))
     simp only [execOp,ho,resolve,hf,h1,hval,Deferred.ofValue,Sem.run_bind,Sem.run_pure,Result.andThen_ok,invoke,eargs]
     have:(first.map (SL.val β)).toArray++(ss.map (SV.val β)).toArray++(caps.map (SL.val β)).toArray=(first.map (SL.val β)++(ss.map (SV.val β)++caps.map (SL.val β))).toArray:=by simp
     rw [this]
     exact hrun
    have hc:=hc β w h.sat
    have hfun: ∀args:Array Value,(callFunc k args).run cx.P w= .ok (.enter k args) w:=by
     intro args
     unfold callable at hcall
     cases hq:cx.P.funcs[k]? with
     | none=>rw [hq] at hcall;cases hcall
     | some fn=>
      rw [hq] at hcall
      simp only [Bool.and_eq_true,Bool.not_eq_true'] at hcall
      obtain ⟨hb,hn⟩:=hcall
      have hn' : ¬ fn.name = "runtime.NumGoroutine" := by simpa using hn
      have hb': ¬fn.body=none:=by intro q;rw [q] at hb;cases hb
      simp [callFunc,hq,hn',hb']
    have hexec:(execOp a.eval o).run cx.P w= .ok (.enter k (first.map (SL.val β)++(ss.map (SV.val β)++caps.map (SL.val β))).toArray) w:=by
     simp only [execOp,ho,resolve,hf,h1,hval,Deferred.ofValue,Sem.run_bind,Sem.run_pure,Result.andThen_ok,invoke,eargs,hfun]
     congr 3
     simp
    unfold Oper.wpIn
    rw [Oper.semAt_eq _ _ _ (notDefer ho (fun _ q=>by cases q)),hexec]
    refine ⟨fun f _=>cx.fence_fn f,?_⟩
    rw [Oper.uponIn_enter]
    refine ⟨fun q=>(by rw [cx.fence_depth] at q;cases q),?_⟩
    refine CallsIn.mono (z_mG cx (callsIn_wide (n:=0 - 1).2 hc)) fun e w' ⟨v,he,β',n',H',F',s',hb1,hn,hlt,hv,hsat,hput⟩=>?_
    subst he
    subst hv
    have hi':Inv cx β' n' env H' F' a w':=by
     refine ⟨fun t q ht=>?_,h.size,by rw [hb1.marks];exact h.df,fun t q ht=>SV.lt_mono hn (h.lte t q ht),hsat⟩
     rw [SV.val_congr hb1 (h.lte t q ht)]
     exact h.ag t q ht
    exact hk _ _ ((z_aL hi' hlt hput).ext hb1 hn)
  ·split at hp
   ·rename_i l hl
    obtain ⟨vfirst,vcaps,hfirst,rfl⟩: ∃(x y:Array Value),x= #[]/\s= .c (.v (.func (.yield l) x y)):=by
     unfold yldOf at hl
     split at hl
     ·split at hl
      ·rename_i hnil;obtain rfl:=Option.some.inj hl;exact ⟨_,_,by simpa using hnil,rfl⟩
      ·cases hl
     ·cases hl
    obtain ⟨f',tmps,assign,body,hy,hround⟩:=hp β w h.sat
    have eargs:c.args.map a.eval=(ss.map (SV.val β)).toArray:=by
     apply Array.ext'
     rw [Array.toList_map,h3]
    have h1':a.eval f= .func (.yield l) vfirst vcaps:=h1
    have hexec:(execOp a.eval o).run cx.P w= .ok (.round l f' tmps assign body) w:=by
     simp only [execOp,ho,resolve,hf,h1',Deferred.ofValue,Sem.run_bind,Sem.run_pure,Result.andThen_ok,invoke,eargs]
     subst hfirst
     simpa using hy
    unfold Oper.wpIn
    rw [Oper.semAt_eq _ _ _ (notDefer ho (fun _ q=>by cases q)),hexec]
    refine ⟨fun f _=>cx.fence_fn f,?_⟩
    rw [Oper.uponIn_round]
    refine ⟨fun q=>(by rw [cx.fence_depth] at q;cases q),?_⟩
    refine RoundIn.mono (z_qk cx hround) fun e w' ⟨v,he,β',n',H',F',s',hb1,hn,hlt,hv,hsat,hput⟩=>?_
    subst he
    subst hv
    have hi':Inv cx β' n' env H' F' a w':=by
     refine ⟨fun t q ht=>?_,h.size,by rw [hb1.marks];exact h.df,fun t q ht=>SV.lt_mono hn (h.lte t q ht),hsat⟩
     rw [SV.val_congr hb1 (h.lte t q ht)]
     exact h.ag t q ht
    exact hk _ _ ((z_aL hi' hlt hput).ext hb1 hn)
   ·exact hp.elim
 ·exact hp.elim
def consts (c:Call):Array Bool:=c.args.map fun | .const _=>true | _=>false
def bfwp (cx:Cx) (n:Nat) (env:Env) (H:List Bk) (F:List Fact) (dst:Option Tmp) (c:Call) (b:Builtin) (K:KT):Prop:=
 match svsOf env c.args.toList with
 | some ss=> ∃(H':List Bk) (F':List Fact) (r:SV),(∀β w ty,Sat cx β n H F w-> ∃w',(builtin b c.argTypes ty (consts c) (ss.map (SV.val β)).toArray).run cx.P w= .ok (.value (r.val β)) w'/\Sat cx β n H' F' w')/\r.lt n/\put cx.N n env H' F' dst r K
 | none=>False
theorem z_hQ (h:Inv cx β n env H F a w) {o:Oper} {c:Call} (ho:o.op= .call c) {b:Builtin} (hb:c.callee= .builtin b) {K:KT} (hp:bfwp cx n env H F o.dst c b K) {K':Act->World->Prop} (hk: ∀a w,AfterE cx β n K a w->K' a w) {Q:Exit->Act->World->Prop}:o.wpIn cx.fence 0 cx.P a w K' Q:=by
 unfold bfwp at hp
 split at hp
 ·rename_i ss hss
  obtain ⟨H',F',r,hf,hr,hK⟩:=hp
  obtain ⟨w',e1,e2⟩:=hf β w o.type h.sat
  have eargs:c.args.map a.eval=(ss.map (SV.val β)).toArray:=by
   apply Array.ext'
   rw [Array.toList_map,(z_lO h _ _ hss).1]
  refine z_gd (v:=r.val β) (w':=w') ?_ (notDefer ho (fun _ q=>by cases q)) (hk _ _ (z_aL (h.mem e2) hr hK))
  simp only [execOp,ho]
  refine z_kv a c b hb o.type w w' _ ?_
  rw [eargs]
  exact e1
 ·exact hp.elim
def xowp (cx:Cx) (n:Nat) (env:Env) (H:List Bk) (F:List Fact) (dst:Option Tmp) (run:Va->TypeId->Sem Value) (K:KT):Prop:=
 ∃(ι:Type) (v:ι->Value) (F':ι->List Fact),(∀β w ty,Sat cx β n H F w-> ∃i w',(run β ty).run cx.P w= .ok (v i) w'/\Sat cx β n H (F' i) w')/\ ∀i,put cx.N n env H (F' i) dst (ofValue (v i)) K
theorem z_m4 (h:Inv cx β n env H F a w) {o:Oper} {run:Va->TypeId->Sem Value} (ho:execOp a.eval o=(do let v<-run β o.type;pure (Next.value v))) (hd: ∀c,o.op≠ .defer c) {K:KT} (hp:xowp cx n env H F o.dst run K) {K':Act->World->Prop} (hk: ∀a w,AfterE cx β n K a w->K' a w) {Q:Exit->Act->World->Prop}:o.wpIn cx.fence 0 cx.P a w K' Q:=by
 obtain ⟨ι,v,F',hf,hK⟩:=hp
 obtain ⟨i,w',e1,e2⟩:=hf β w o.type h.sat
 refine z_gd (v:=v i) (w':=w') ?_ hd ?_
 ·rw [ho]
  simp only [Sem.run_bind,e1,Result.andThen_ok,Sem.run_pure]
 ·have q:=z_aL (s:=ofValue (v i)) (h.mem e2) (z_fH _ _) (hK i)
  rw [z_et] at q
  exact hk _ _ q
def isRo (cx:Cx):Op->Bool
 | .alloc _ | .box _ _ | .store _ _ _ | .buildSlice _ _ _ | .makeSlice _ _ _ | .makeMap _ _ | .mapUpdate _ _ _ _ | .insert _ _ _ _ | .range _ _ | .next _ _ | .entry _=>false
 | .convert src dst _=>match lk cx.tt src,lk cx.tt dst with
  | some i,some j=>(match i.desc,j.desc with | .string,.slice _=>false | .slice _,.slice _=>false | _,_=>true)
  | _,_=>true
 | .call c=>match c.callee with
  | .builtin .len | .builtin .cap | .builtin .min | .builtin .max=>true
  | _=>false
 | _=>true
def sameTy:List TypeId->Bool
 | [t,t']=>Nat.beq t t'
 | _=>true
def fxwp (cx:Cx) (n:Nat) (env:Env) (H:List Bk) (F:List Fact) (dst:Option Tmp) (op:Op) (K:KT):Prop:=
 match op with
 | .alloc t=>alwp cx n env H F dst t K
 | .box t x=>bxwp cx n env H F dst t x K
 | .store t x y=>stwp cx n env H F dst t x y K
 | .buildSlice t l ps=>bswp cx n env H F dst t l ps K
 | .makeSlice t x y=>mkwp cx n env H F dst t x y K
 | .makeMap _ none=>mmpwp cx n env H F dst K
 | .mapUpdate t m k x=>muwp cx n env H F dst t m k x K
 | .insert t m k x=>muwp cx n env H F dst t m k x K
 | .range t x=>match ev env x with | some s=>xowp cx n env H F dst (fun β _=>Instr.range t (s.val β)) K | none=>False
 | .next x b=>match ev env x with | some s=>xowp cx n env H F dst (fun β ty=>Instr.next (s.val β) b ty) K | none=>False
 | .entry x=>match ev env x with | some s=>xowp cx n env H F dst (fun β _=>Instr.entry (s.val β)) K | none=>False
 | .convert src t x=>match ev env x with
  | some (.c (.v (.slice _ _ _)))=>fzwp cx n env H F dst src t x K
  | _=>sbwp cx n env H F dst src t x K
 | .call c=>match c.callee with
  | .builtin .append=>match sameTy c.argTypes.toList with
   | true=>apwp cx n env H F dst c K
   | false=>apxwp cx n env H F dst c K
  | .builtin .copy=>bfwp cx n env H F dst c .copy K
  | .builtin .delete=>bfwp cx n env H F dst c .delete K
  | .builtin .unsafeSliceData=>bfwp cx n env H F dst c .unsafeSliceData K
  | .builtin .unsafeString=>bfwp cx n env H F dst c .unsafeString K
  | .builtin .clear=>bfwp cx n env H F dst c .clear K
  | .value f=>cawp cx n env H F dst f c.args.toList K
  | _=>False
 | _=>False
def slOk:Op->Bool
 | .slice _ _ _ hi mx=>match mx,hi with | some _,none=>false | _,_=>true
 | _=>true
def opwp (cx:Cx) (n:Nat) (env:Env) (H:List Bk) (F:List Fact) (dst:Option Tmp) (op:Op) (K:KT):Prop:=
 match slOk op with
 | true=>match isRo cx op with
  | true=>rowp cx n env H F op fun s=>put cx.N n env H F dst s K
  | false=>fxwp cx n env H F dst op K
 | false=>False
theorem z_rA {o:Oper} (h:slOk o.op=true): ∀t x lo hi mx,o.op= .slice t x lo hi mx->mx.isSome=true->hi.isSome=true:=by
 intro t x lo hi mx ho hm
 rw [ho] at h
 cases mx with
 | none=>cases hm
 | some m=>cases hi with
  | none=>cases h
  | some _=>rfl
theorem z_nf (g:Good cx) (h:Inv cx β n env H F a w) {o:Oper} {K:KT} (hp:opwp cx n env H F o.dst o.op K) {K':Act->World->Prop} (hk: ∀a w,AfterE cx β n K a w->K' a w) {Q:Exit->Act->World->Prop}:o.wpIn cx.fence 0 cx.P a w K' Q:=by
 unfold opwp at hp
 split at hp
 ·rename_i hsl
  split at hp
  ·have hp0:=hp
   obtain ⟨r,h1,h2,h3⟩:=z_pI g h o (z_rA hsl) hp
   exact z_gd (h3 w h.sat) (fun c q=>by rw [q] at hp0;exact hp0.elim) (hk _ _ (z_aL h h1 h2))
  ·unfold fxwp at hp
   split at hp
   ·rename_i ho;exact z_t8 g h ho hp hk
   ·rename_i ho;exact z_tZ h ho hp hk
   ·rename_i ho;exact z_us g h ho hp hk
   ·rename_i ho;exact z_tV g h ho hp hk
   ·rename_i ho;exact z_tK g h ho hp hk
   ·rename_i ho;exact z_sg h ho hp hk
   ·rename_i ho;exact z_pZ h (by simp only [execOp,ho]) (notDefer ho (fun _ q=>by cases q)) hp hk
   ·rename_i ho;exact z_pZ h (by simp only [execOp,ho]) (notDefer ho (fun _ q=>by cases q)) hp hk
   ·rename_i ho
    split at hp
    ·rename_i hx
     exact z_m4 h (by simp only [execOp,ho,(h.ev hx).1]) (notDefer ho (fun _ q=>by cases q)) hp hk
    ·exact hp.elim
   ·rename_i ho
    split at hp
    ·rename_i hx
     exact z_m4 h (by simp only [execOp,ho,(h.ev hx).1]) (notDefer ho (fun _ q=>by cases q)) hp hk
    ·exact hp.elim
   ·rename_i ho
    split at hp
    ·rename_i hx
     exact z_m4 h (by simp only [execOp,ho,(h.ev hx).1]) (notDefer ho (fun _ q=>by cases q)) hp hk
    ·exact hp.elim
   ·rename_i ho
    split at hp
    ·exact z_tY g h ho hp hk
    ·exact z_tS g h ho hp hk
   ·rename_i c ho
    split at hp
    ·rename_i hb
     split at hp
     ·exact z_tI g h ho hb hp hk
     ·exact z_r4 g h ho hb hp hk
    ·rename_i hb;exact z_hQ h ho hb hp hk
    ·rename_i hb;exact z_hQ h ho hb hp hk
    ·rename_i hb;exact z_hQ h ho hb hp hk
    ·rename_i hb;exact z_hQ h ho hb hp hk
    ·rename_i hb;exact z_hQ h ho hb hp hk
    ·rename_i hb;exact z_tR g h ho hb hp hk
    ·exact hp.elim
   ·exact hp.elim
 ·exact hp.elim
def dstOf (l:List Oper) (j:Nat):Option Tmp:=match nth l j with | some o=>o.dst | none=>none
def gwp (cx:Cx) (all:List Oper) (n:Nat) (env:Env) (H:List Bk) (F:List Fact) (o:Oper) (K:KT):Prop:=
 match o.guard with
 | none=>opwp cx n env H F o.dst o.op K
 | some (j,want)=>match dstOf all j with
  | some t=>match get env t with
   | some (.c (.v (.bool b)))=>(match b with
     | true=>(match want with | true=>opwp cx n ((t,bl true)::env) H F o.dst o.op K | false=>put cx.N n ((t,bl true)::env) H F o.dst (.c (.v undef)) K)
     | false=>(match want with | true=>put cx.N n ((t,bl false)::env) H F o.dst (.c (.v undef)) K | false=>opwp cx n ((t,bl false)::env) H F o.dst o.op K))
   | some (.c (.v (.tuple _)))=>put cx.N n env H F o.dst (.c (.v undef)) K
   | _=>False
  | none=>False
def rwp (cx:Cx) (all:List Oper):List Oper->KT->KT
 | [],K=>K
 | o::r,K=>fun n env H F=>gwp cx all n env H F o (rwp cx all r K)
theorem Inv.shadow (h:Inv cx β n env H F a w) {t:Nat} {b:Bool} (ht:get env t=some (.c (.v (.bool b)))):Inv cx β n ((t,bl b)::env) H F a w:=by
 refine ⟨fun u s hu=>?_,h.size,h.df,fun u s hu=>?_,h.sat⟩
 ·by_cases htu:t=u
  ·subst htu
   rw [z_dW] at hu
   obtain rfl:=Option.some.inj hu
   exact h.ag t _ ht
  ·rw [z_cq _ _ htu] at hu
   exact h.ag u s hu
 ·by_cases htu:t=u
  ·subst htu
   rw [z_dW] at hu
   obtain rfl:=Option.some.inj hu
   trivial
  ·rw [z_cq _ _ htu] at hu
   exact h.lte u s hu
theorem z_mT (g:Good cx) (h:Inv cx β n env H F a w) {ops:Array Oper} {o:Oper} {K:KT} (hp:gwp cx ops.toList n env H F o K) {K':Act->World->Prop} (hk: ∀a w,AfterE cx β n K a w->K' a w) {Q:Exit->Act->World->Prop}:
  if Region.wanted o (yielded ops a.tmps) then o.wpIn cx.fence 0 cx.P a w K' Q else K' (a.put o.dst undef) w:=by
 unfold gwp at hp
 split at hp
 ·rename_i hg
  rw [if_pos (by simp [Region.wanted,hg])]
  exact z_nf g h hp hk
 ·rename_i j want hg
  split at hp
  ·rename_i t hdt
   have hop:(ops[j]?).bind (·.dst)=some t:=by
    unfold dstOf at hdt
    rw [z_aX] at hdt
    split at hdt
    ·rename_i o' ho'
     have:ops[j]?=some o':=by simpa using ho'
     rw [this];exact hdt
    ·cases hdt
   split at hp
   ·rename_i b hb
    have hy:yielded ops a.tmps j=some b:=by
     have:=h.ag t _ hb
     simp only [SV.val,SL.val] at this
     simp [yielded,hop,this]
    obtain ⟨hT,hF⟩:=(show BIf _ _ _ from hp).out
    have hw:Region.wanted o (yielded ops a.tmps)=(b==want):=by simp [Region.wanted,hg,hy]
    rw [hw]
    cases b<;>cases want
    ·rw [if_pos (by decide)];exact z_nf g (h.shadow hb) (hF rfl) hk
    ·rw [if_neg (by decide)];exact hk _ _ (z_aL (s:= .c (.v undef)) (h.shadow hb) trivial (hF rfl))
    ·rw [if_neg (by decide)];exact hk _ _ (z_aL (s:= .c (.v undef)) (h.shadow hb) trivial (hT rfl))
    ·rw [if_pos (by decide)];exact z_nf g (h.shadow hb) (hT rfl) hk
   ·rename_i vs hb
    have hy:yielded ops a.tmps j=none:=by
     have:=h.ag t _ hb
     simp only [SV.val,SL.val] at this
     simp [yielded,hop,this]
    rw [if_neg (by simp [Region.wanted,hg,hy])]
    exact hk _ _ (z_aL (s:= .c (.v undef)) h trivial hp)
   ·exact hp.elim
  ·exact hp.elim
theorem z_jU (g:Good cx) {ops:Array Oper}: ∀(l:List Oper) {K:KT} {β:Va} {n:Nat} {env:Env} {H:List Bk} {F:List Fact} {a:Act} {w:World},Inv cx β n env H F a w->rwp cx ops.toList l K n env H F-> ∀ {Q:Exit->Act->World->Prop},(∀a w,After cx K a w->Q .normal a w)->wpListIn cx.fence 0 cx.P ops Q l a w
 | [],K,β,n,env,H,F,a,w,h,hp,Q,hq=>wpListIn_nil (hq _ _ ⟨β,n,env,H,F,h,hp⟩)
 | o::r,K,β,n,env,H,F,a,w,h,hp,Q,hq=>by
  refine wpListIn_step fun K' hK'=>?_
  have:=z_mT (Q:=Q) g h hp (fun a w ⟨β',n',env',H',F',_,_,h',hr⟩=>hK' _ _ (z_jU g r h' hr hq))
  split at this
  ·rename_i q;rw [if_pos q];exact this
  ·rename_i q;rw [if_neg q];exact ⟨fun f _=>cx.fence_fn f,this⟩
def Post (cx:Cx) (Q:Exit->KT):Exit->Act->World->Prop
 | .panic _,_,_=>False
 | .outgrown,_,_=>False
 | e,a,w=>After cx (Q e) a w
structure Tri (cx:Cx) (c:Code) (Q:Exit->KT) (n:Nat) (env:Env) (H:List Bk) (F:List Fact):Prop where
 run: ∀β a w,Inv cx β n env H F a w->c.wpIn cx.fence 0 cx.P (Post cx Q) a w
def andThen (k:KT) (Q:Exit->KT):Exit->KT
 | .normal=>k
 | e=>Q e
def inBlock (id:Nat) (Q:Exit->KT):Exit->KT
 | .exit i=>match Nat.beq i id with | true=>Q .normal | false=>Q (.exit i)
 | e=>Q e
def noGoto (Q:Exit->KT):Exit->KT
 | .goto _=>fun _ _ _ _=>False
 | e=>Q e
theorem z_tL {F:Fence} {n:Nat} {P:Program} {Q:Exit->Act->World->Prop} {a:Act} {w:World} {c:Code} (h:c.wpIn F n P (Exit.noGoto Q) a w):(Code.scope c).wpIn F n P Q a w:=by
 intro b k cs hro hb hr
 have s1:step P (lone (b.atR a (.code (.scope c)::k)) cs w)= .next (lone (b.atR a (.code c:: .inScope c::k)) cs w):=step_lone_go (by simp [stepG,stepG.exec,Frame.atR])
 have s2: ∀a w,step P (lone (b.atR a (.inScope c::k)) cs w)= .next (lone (b.atR a k) cs w):=fun a w=>step_lone_go (by simp [stepG,stepG.exec,Frame.atR])
 have h0:(lone (b.atR a (.code (.scope c)::k)) cs w).fenced P F:=fenced_calm hb hr rfl
 obtain ⟨e,a₁,w₁,hq,harr⟩:=h b (.inScope c::k) cs hro hb hr
 cases e with
 | normal=>exact ⟨.normal,a₁,w₁,hq,.head h0 s1 (StepsIn.trans harr (.one (fenced_calm hb hr rfl) (s2 _ _)))⟩
 | exit id=>
  have hx:exitTo id (.inScope c::k)=exitTo id k:=by simp [exitTo]
  exact ⟨.exit id,a₁,w₁,hq,fun k' hk=> .head h0 s1 (harr.1 k' (by rw [hx];exact hk)),fun hr' hk=>let ⟨k₁,h1,h2⟩:=harr.2 hr' (by rw [hx];exact hk);⟨k₁,h1,.head h0 s1 h2⟩⟩
 | goto l=>exact hq.elim
 | ret=>exact ⟨_,a₁,w₁,hq,.of_steps (.one h0 s1) harr⟩
 | panic ch=>exact ⟨_,a₁,w₁,hq,.of_steps (.one h0 s1) harr⟩
 | outgrown=>exact ⟨_,a₁,w₁,hq,.of_steps (.one h0 s1) harr⟩
def cwp (cx:Cx):Code->(Exit->KT)->KT
 | .skip,Q=>Q .normal
 | .region id ops draw,Q=>match draw with
  | false=>rwp cx ops.toList ops.toList (Q .normal)
  | true=>Tri cx (.region id ops true) Q
 | .seq a b,Q=>cwp cx a (andThen (cwp cx b Q) Q)
 | .cond c x y,Q=>fun n env H F=>match ev env c with
  | some (.c (.v (.bool b)))=>(match b with | true=>cwp cx x Q n env H F | false=>cwp cx y Q n env H F)
  | _=>False
 | .block id c,Q=>cwp cx c (inBlock id Q)
 | .loop c,Q=>Tri cx (.loop c) Q
 | .exit id,Q=>Q (.exit id)
 | .ret,Q=>Q .ret
 | .rangeFunc f ps x y,Q=>Tri cx (.rangeFunc f ps x y) Q
 | .label _,Q=>Q .normal
 | .scope c,Q=>cwp cx c (noGoto Q)
 | _,_=>fun _ _ _ _=>False
theorem z_bv (g:Good cx): ∀(c:Code) (Q:Exit->KT) (n:Nat) (env:Env) (H:List Bk) (F:List Fact),cwp cx c Q n env H F->Tri cx c Q n env H F
 | .skip,Q,n,env,H,F,hp=>⟨fun β a w h=>wpIn_skip ⟨β,n,env,H,F,h,hp⟩⟩
 | .region id ops draw,Q,n,env,H,F,hp=>by
  cases draw with
  | true=>exact hp
  | false=>exact ⟨fun β a w h=>wpIn_region_list (z_jU g _ h hp (fun a w q=>q))⟩
 | .seq x y,Q,n,env,H,F,hp=>by
  refine ⟨fun β a w h=>wpIn_seq (wpIn_mono ((z_bv g x _ n env H F hp).run β a w h) fun e a w hq=>?_)⟩
  cases e with
  | normal=>
   obtain ⟨β',n',env',H',F',h',hq'⟩:=hq
   exact (z_bv g y Q n' env' H' F' hq').run β' a w h'
  | exit id=>exact hq
  | goto l=>exact hq
  | ret=>exact hq
  | panic c=>exact hq
  | outgrown=>exact hq
 | .cond c x y,Q,n,env,H,F,hp=>by
  refine ⟨fun β a w h=>?_⟩
  simp only [cwp] at hp
  split at hp
  ·rename_i b hb
   have he:a.eval c= .bool b:=(h.ev hb).1
   obtain ⟨hT,hF⟩:=(show BIf _ _ _ from hp).out
   exact wpIn_cond_split he (fun q=>(z_bv g x Q n env H F (hT q)).run β a w h) (fun q=>(z_bv g y Q n env H F (hF q)).run β a w h)
  ·exact hp.elim
 | .block id c,Q,n,env,H,F,hp=>by
  refine ⟨fun β a w h=>wpIn_block (wpIn_mono ((z_bv g c _ n env H F hp).run β a w h) fun e a w hq=>?_)⟩
  cases e with
  | normal=>exact hq
  | exit i=>
   obtain ⟨β',n',env',H',F',h',hq'⟩:=hq
   simp only [inBlock] at hq'
   simp only [Exit.inBlock]
   cases hb:Nat.beq i id with
   | true=>rw [hb] at hq';rw [if_pos (Nat.eq_of_beq_eq_true hb)];exact ⟨β',n',env',H',F',h',hq'⟩
   | false=>
    rw [hb] at hq'
    rw [if_neg (fun q=>by subst q;rw [Nat.beq_refl] at hb;cases hb)]
    exact ⟨β',n',env',H',F',h',hq'⟩
  | goto l=>exact hq
  | ret=>exact hq
  | panic c=>exact hq
  | outgrown=>exact hq
 | .loop c,Q,n,env,H,F,hp=>hp
 | .exit id,Q,n,env,H,F,hp=>⟨fun β a w h=>wpIn_exit ⟨β,n,env,H,F,h,hp⟩⟩
 | .ret,Q,n,env,H,F,hp=>⟨fun β a w h=>wpIn_ret ⟨β,n,env,H,F,h,hp⟩⟩
 | .rangeFunc f ps x y,Q,n,env,H,F,hp=>hp
 | .scope c,Q,n,env,H,F,hp=>by
  refine ⟨fun β a w h=>z_tL (wpIn_mono ((z_bv g c _ n env H F hp).run β a w h) fun e a w hq=>?_)⟩
  cases e with
  | goto l=>obtain ⟨β',n',env',H',F',h',hq'⟩:=hq;exact hq'.elim
  | normal=>exact hq
  | exit id=>exact hq
  | ret=>exact hq
  | panic c=>exact hq
  | outgrown=>exact hq
 | .label _,Q,n,env,H,F,hp=>⟨fun β a w h=>wpIn_label ⟨β,n,env,H,F,h,hp⟩⟩
 | .goto _,Q,n,env,H,F,hp=>hp.elim
 | .refuse _,Q,n,env,H,F,hp=>hp.elim
structure Ent (cx:Cx) (n:Nat) (env:Env) (H:List Bk) (F:List Fact) (n':Nat) (env':Env) (H':List Bk) (F':List Fact):Prop where
 run: ∀β a w,Inv cx β n env H F a w-> ∃β':Va,β'.pins=β.pins/\β'.marks=β.marks/\Inv cx β' n' env' H' F' a w
theorem z_ag {c:Code} {Q:Exit->KT} {ι:Type} (n':Nat) (E:ι->Env) (HH:ι->List Bk) (FF:ι->List Fact) (pre:ι->Prop) (μ:ι->Nat) (i0:ι) (h0:pre i0) (he:Ent cx n env H F n' (E i0) (HH i0) (FF i0))
  (g:Good cx) (round: ∀i,pre i->cwp cx c (andThen (fun m env H F=> ∃j,pre j/\μ j<μ i/\Ent cx m env H F n' (E j) (HH j) (FF j)) Q) n' (E i) (HH i) (FF i)):Tri cx (.loop c) Q n env H F:=by
 refine ⟨fun β a w h=>?_⟩
 obtain ⟨β',_,_,h'⟩:=he.run β a w h
 intro b k cs hro hb hr
 have key: ∀(m:Nat) (i:ι),μ i=m->pre i-> ∀β a w,Inv cx β n' (E i) (HH i) (FF i) a w->
   ∃e a' w',Post cx Q e a' w'/\ArrivesIn (Machine.fenced cx.P cx.fence) cx.P (lone (b.atR a (.code c:: .inLoop c::k)) cs w) b k cs e a' w':=by
  intro m
  induction m using Nat.strongRecOn with
  | _ m ih=>
   intro i hm hpre β a w h
   have hr':=(z_bv g c _ _ _ _ _ (round i hpre)).run β a w h
   obtain ⟨e,a₁,w₁,hq,harr⟩:=hr' b (.inLoop c::k) cs hro hb hr
   cases e with
   | normal=>
    obtain ⟨β',n1,env1,H1,F1,h1,j,hpj,hlt,hent⟩:=hq
    obtain ⟨β2,_,_,h2⟩:=hent.run β' a₁ w₁ h1
    obtain ⟨e₂,a₂,w₂,hq₂,harr₂⟩:=ih (μ j) (hm▸hlt) j rfl hpj β2 a₁ w₁ h2
    exact ⟨e₂,a₂,w₂,hq₂,.of_steps (StepsIn.trans harr (.one (fenced_calm hb hr rfl) stepR_inLoop)) harr₂⟩
   | exit id=>exact ⟨.exit id,a₁,w₁,hq,.pass (x:= .inLoop c) rfl (fun _ _=> .inl (by simp)) harr⟩
   | goto l=>exact ⟨.goto l,a₁,w₁,hq,.pass (x:= .inLoop c) rfl (fun _ _=> .inl (by simp)) harr⟩
   | ret=>exact ⟨.ret,a₁,w₁,hq,.pass (x:= .inLoop c) rfl (fun _ _=> .inl (by simp)) harr⟩
   | panic ch=>exact hq.elim
   | outgrown=>exact hq.elim
 obtain ⟨e,a',w',hq,harr⟩:=key _ i0 rfl h0 β' a w h'
 exact ⟨e,a',w',hq,.of_steps (.one (fenced_calm hb hr rfl) stepR_loop) harr⟩
def pairs:Nat->List SV->Env
 | _,[]=>[]
 | i,s::r=>(i,s)::pairs (i+1) r
theorem z_jf: ∀(l:List SV) (i t:Nat) (s:SV),get (pairs i l) t=some s-> ∃j,t=i+j/\l[j]?=some s
 | [],i,t,s,h=>by cases h
 | x::r,i,t,s,h=>by
  simp only [pairs] at h
  by_cases hit:i=t
  ·subst hit
   rw [z_dW] at h
   exact ⟨0,rfl,by simpa using h⟩
  ·rw [z_cq _ _ hit] at h
   obtain ⟨j,rfl,hj⟩:=z_jf r (i+1) t s h
   exact ⟨j+1,by omega,by simpa using hj⟩
def resOf (cx:Cx) (env:Env) (H:List Bk):List ResultVar->Option (List SV)
 | []=>some []
 | .tmp t::r=>match get env t,resOf cx env H r with
  | some s,some l=>some (s::l)
  | _,_=>none
 | .cell t ty::r=>match get env t,lk cx.tt ty,resOf cx env H r with
  | some (.c (.p id o)),some i,some l=>match cellsAt H id with
   | some cs=>match i.agg with
    | true=>match takeAt cs o i.size with | some xs=>some (.agg xs::l) | none=>none
    | false=>match nth cs o with | some x=>some (.c x::l) | none=>none
   | none=>none
  | _,_,_=>none
def retVal (β:Va):List SV->Value
 | [s]=>s.val β
 | l=> .tuple (l.map (SV.val β)).toArray
def RetWP (cx:Cx) (rs:List ResultVar) (R:Value->World->Prop):KT:=fun n env H F=>
 match resOf cx env H rs with
 | some l=> ∀β w,Sat cx β n H F w->R (retVal β l) w
 | none=>False
def fnPost (cx:Cx) (rs:List ResultVar) (R:Value->World->Prop):Exit->KT
 | .normal | .ret=>RetWP cx rs R
 | _=>fun _ _ _ _=>False
def rvSem (tmps:Array Value):ResultVar->Sem Value
 | .tmp t=>pure (tmps.getD t undef)
 | .cell t ty=>do loadVar ty (<-asAddr (tmps.getD t undef))
theorem z_ip (g:Good cx) (h:Inv cx β n env H F a w): ∀(rs:List ResultVar) (l:List SV),resOf cx env H rs=some l->
  (rs.mapM (rvSem a.tmps)).run cx.P w= .ok (l.map (SV.val β)) w
 | [],l,hl=>by
  simp only [resOf,Option.some.injEq] at hl
  subst hl
  simp
 | .tmp t::r,l,hl=>by
  simp only [resOf] at hl
  split at hl
  ·rename_i s l' hs hr
   obtain rfl:=Option.some.inj hl
   have h1:=h.ag t s hs
   have h2:a.tmps.getD t undef=s.val β:=by simp only [Array.getD_eq_getD_getElem?,h1,Option.getD_some]
   simp only [List.mapM_cons,rvSem,Sem.run_bind,Sem.run_pure,Result.andThen_ok,z_ip g h r l' hr,h2,List.map_cons]
  ·cases hl
 | .cell t ty::r,l,hl=>by
  simp only [resOf] at hl
  split at hl
  ·rename_i id o i l' hs hi hr
   have ti:=g.ti hi
   have hA: ∀ad:Addr,(asAddr (.pointer (some ad))).run cx.P w= .ok ad w:=fun _=>rfl
   have h1:=h.ag t _ hs
   have h2:a.tmps.getD t undef= .pointer (some ⟨β id,o,none⟩):=by simp only [Array.getD_eq_getD_getElem?,h1,Option.getD_some];rfl
   split at hl
   ·rename_i cs hc
    split at hl
    ·rename_i hag
     split at hl
     ·rename_i xs hx
      obtain rfl:=Option.some.inj hl
      have hrun:=z_jO ti hag w ⟨β id,o,none⟩ (xs.map (SL.val β)) (by rw [List.length_map];exact (z_en _ _ _ _ hx).1) (h.sat.row hc hx)
      simp only [List.mapM_cons,rvSem,Sem.run_bind,Sem.run_pure,Result.andThen_ok,z_ip g h r l' hr,h2,List.map_cons,hA,hrun,SV.val]
     ·cases hl
    ·rename_i hag
     split at hl
     ·rename_i x hx
      obtain rfl:=Option.some.inj hl
      have hrun:=z_jy ti hag w ⟨β id,o,none⟩ _ (h.sat.cell hc o hx)
      simp only [List.mapM_cons,rvSem,Sem.run_bind,Sem.run_pure,Result.andThen_ok,z_ip g h r l' hr,h2,List.map_cons,hA,hrun,SV.val]
     ·cases hl
   ·cases hl
  ·cases hl
def SL.ltB (n:Nat):SL->Bool
 | .v _=>true
 | .p id _=>Nat.blt id n
def allLtL (n:Nat):List SL->Bool
 | []=>true
 | x::r=>match x.ltB n with | true=>allLtL n r | false=>false
def SV.ltB (n:Nat):SV->Bool
 | .c x=>x.ltB n
 | .agg xs=>allLtL n xs
 | .fn _ first caps=>match allLtL n first with | true=>allLtL n caps | false=>false
def allLt (n:Nat):List SV->Bool
 | []=>true
 | x::r=>match x.ltB n with | true=>allLt n r | false=>false
theorem SL.ltB_lt {n:Nat} {x:SL} (h:x.ltB n=true):x.lt n:=by
 cases x with
 | v x=>trivial
 | p id o=>exact (by simpa [SL.ltB,Nat.blt_eq] using h:id<n)
theorem z_hB {n:Nat}: ∀ {l:List SL},allLtL n l=true-> ∀x∈l,x.lt n
 | [],_,x,hx=>by cases hx
 | y::r,h,x,hx=>by
  simp only [allLtL] at h
  cases hy:y.ltB n with
  | false=>rw [hy] at h;cases h
  | true=>
   rw [hy] at h
   rcases List.mem_cons.1 hx with rfl | hx
   ·exact SL.ltB_lt hy
   ·exact z_hB h x hx
theorem SV.ltB_lt {n:Nat} {x:SV} (h:x.ltB n=true):x.lt n:=by
 cases x with
 | c x=>exact SL.ltB_lt h
 | agg xs=>exact z_hB h
 | fn f first caps=>
  simp only [SV.ltB] at h
  cases hy:allLtL n first with
  | false=>rw [hy] at h;cases h
  | true=>rw [hy] at h;exact ⟨z_hB hy,z_hB h⟩
theorem z_oL {n:Nat}: ∀ {l:List SV},allLt n l=true-> ∀x∈l,x.lt n
 | [],_,x,hx=>by cases hx
 | y::r,h,x,hx=>by
  simp only [allLt] at h
  cases hy:y.ltB n with
  | false=>rw [hy] at h;cases h
  | true=>
   rw [hy] at h
   rcases List.mem_cons.1 hx with rfl | hx
   ·exact SV.ltB_lt hy
   ·exact z_oL h x hx
theorem Sat.unpin (h:Sat cx β n H F w) (hr:cx.rnd=none) (hp0:cx.pn=[]) {r:Nat} {rs:List Nat} (hm:β.marks=r::rs) (o:Obj):
  Sat cx ⟨β.b,β.pins.filter (fun p=>!(p.1==r)),rs⟩ n H F (w.putObj r o):=by
 have hrm:(r,Obj.deferred (some []))∈β.pins/\cx.W0.heap.size<=r:=h.mrk.2 r (by rw [hm];exact List.mem_cons_self)
 have hrf: ∀f∈F,¬f.D r:=(h.pin _ hrm.1).2.2
 have hoth: ∀k,k≠r->(w.putObj r o).heap[k]?=w.heap[k]?:=fun k hk=>World.putObj_heap_other hk
 have hnd:(r::rs).Nodup:=by rw [<-hm];exact h.mrk.1
 obtain ⟨hn1,hn2⟩:=List.nodup_cons.1 hnd
 refine ⟨⟨h.chg.os,h.chg.tape,h.chg.output,by rw [World.putObj_size];exact h.chg.size,fun k hk hs=>?_⟩,h.fix,fun b hb=>?_,h.mine,h.inj,h.ltb,fun f hf=>?_,fun f hf k hk=>?_,h.sepb,h.fown,h.sepf,fun p hp=>?_,⟨hn2,fun q hq=>?_⟩,⟨fun p hp=>(by rw [hp0] at hp;cases hp),fun l hl=>?_⟩⟩
 ·rw [hoth k (by omega)];exact h.chg.same k hk hs
 ·rw [hoth _ (h.pinBk hrm.1 hb)];exact h.blk b hb
 ·exact f.st _ _ (fun k hk=>hoth k (fun q=>by subst q;exact hrf f hf hk)) (h.fact f hf)
 ·rw [World.putObj_size];exact h.flt f hf k hk
 ·obtain ⟨hp1,hp2⟩:=List.mem_filter.1 hp
  have hne:p.1≠r:=by simpa using hp2
  exact ⟨by rw [hoth _ hne];exact (h.pin p hp1).1,(h.pin p hp1).2⟩
 ·have hq':=h.mrk.2 q (by rw [hm];exact List.mem_cons_of_mem _ hq)
  refine ⟨List.mem_filter.2 ⟨hq'.1,?_⟩,hq'.2⟩
  have:q≠r:=fun e=>hn1 (e▸hq)
  simpa using this
 ·rw [hr] at hl;cases hl
theorem z_oO {fn:Func} {R:Value->World->Prop} {tmps:Array Value} (g:Good cx) (hr:cx.rnd=none) (hp0:cx.pn=[]):
  ∀(ms:List Nat) (β:Va) (w:World),β.marks=ms->Inv cx β n env H F {tmps,defers:=ms.map (fun r=> {target:= .collected r,args:= #[]})} w->RetWP cx fn.results.toList R n env H F->
   LeavesInM cx.fence 0 cx.P fn tmps (fun e w'=> ∃v,e= .returned v/\R v w') (ms.map (fun r=> {target:= .collected r,args:= #[]})) .returning w
 | [],β,w,hm,h,hp=>by
  have hp':=hp
  unfold RetWP at hp
  split at hp
  ·rename_i l hl
   have hrun:=z_ip g h _ l hl
   refine ⟨retVal β l,?_,_,rfl,hp β w h.sat⟩
   have hres:results fn tmps=(do let vs<-fn.results.mapM (rvSem tmps);pure (if h:vs.size=1 then vs[0] else .tuple vs)):=rfl
   rw [hres,Array.mapM_eq_mapM_toList]
   simp only [map_eq_pure_bind,Sem.run_bind,hrun,Result.andThen_ok,Sem.run_pure]
   congr 1
   match l with
   | []=>rfl
   | [s]=>rfl
   | s::t::r=>simp [retVal]
  ·exact hp.elim
 | r::rs,β,w,hm,h,hp=>by
  have hpin:=(h.sat.pin _ (h.sat.mrk.2 r (by rw [hm];exact List.mem_cons_self)).1).1
  refine ⟨by simp,.inl ⟨r,_,rfl,run_takeDeferred hpin,?_⟩⟩
  exact z_oO g hr hp0 rs ⟨β.b,β.pins.filter (fun p=>!(p.1==r)),rs⟩ _ rfl ⟨fun t s ht=>h.ag t s ht,h.size,rfl,h.lte,h.sat.unpin hr hp0 hm _⟩ hp
theorem z_bh {f:FuncId} {fn:Func} {c:Code} {R:Value->World->Prop} (g:Good cx) (hf:cx.P.funcs[f]?=some fn) (hb:fn.body=some c) (hN:fn.ntmps=cx.N)
  {β:Va} (svs:List SV) (n:Nat) (H:List Bk) (F:List Fact) (hlen:Nat.ble svs.length cx.N=true) (hltB:allLt n svs=true) (hs:Sat cx β n H F w)
  (hw:cwp cx c (fnPost cx fn.results.toList R) n (pairs 0 svs) H F) (hr:cx.rnd=none:=by rfl) (hm:β.marks=[]:=by rfl) (hp0:cx.pn=[]:=by rfl):
  Calls cx.P f (svs.map (SV.val β)).toArray w fun e w'=> ∃v,e= .returned v/\R v w':=by
 have hfe:cx.fence=Fence.wide:=by unfold Cx.fence;rw [hr]
 refine (callsIn_wide (n:=0)).1 (callsIn_of_wp_marks hf hb trivial ?_)
 have hlt:=z_oL hltB
 have hlen':svs.length<=cx.N:=Nat.le_of_ble_eq_true hlen
 have hi:Inv cx β n (pairs 0 svs) H F {tmps:=(svs.map (SV.val β)).toArray++Array.replicate (fn.ntmps - (svs.map (SV.val β)).toArray.size) undef,defers:=[]} w:=by
  refine ⟨fun t s ht=>?_,?_,by rw [hm];rfl,fun t s ht=>?_,hs⟩
  ·obtain ⟨j,rfl,hj⟩:=z_jf svs 0 t s ht
   have hjl:j<svs.length:=(List.getElem?_eq_some_iff.1 hj).1
   rw [Array.getElem?_append_left (by simp;omega)]
   simp [hj]
  ·simp [hN];omega
  ·obtain ⟨j,rfl,hj⟩:=z_jf svs 0 t s ht
   exact hlt s (List.mem_of_getElem? hj)
 have h0:=(z_bv g c _ n _ H F hw).run β _ w hi
 rw [hfe] at h0
 refine wpIn_mono h0 fun e a' w' hq=>?_
 have key:After cx (RetWP cx fn.results.toList R) a' w'->LeavesInM Fence.wide 0 cx.P fn a'.tmps (fun e w'=> ∃v,e= .returned v/\R v w') a'.defers .returning w':=by
  rintro ⟨β',n',env',H',F',h',hp⟩
  rw [<-hfe]
  have hd:=h'.df
  obtain ⟨tmps,defers⟩:=a'
  simp only at hd
  subst hd
  exact z_oO g hr hp0 _ β' w' rfl h' hp
 cases e with
 | normal=>exact key hq
 | ret=>exact key hq
 | exit id=>obtain ⟨_,_,_,_,_,_,hq⟩:=hq;exact hq.elim
 | goto l=>obtain ⟨_,_,_,_,_,_,hq⟩:=hq;exact hq.elim
 | panic ch=>exact hq.elim
 | outgrown=>exact hq.elim
end
end Go.Proofs.YtfomhhkoamapmaaGreatDoor.Sx
namespace Go.Proofs.YtfomhhkoamapmaaGreatDoor.Sx
open Go
inductive Plan where
 | done
 | take (i:Nat) (p:Plan)
 | exec (i:Nat) (p:Plan)
 | alt (i:Nat) (p:Plan) (q:Plan)
 | brk (i:Nat) (p:Plan)
 | altb (i:Nat) (p:Plan) (q:Plan)
def heads:Plan->List Nat
 | .exec i _ | .brk i _=>[i]
 | .alt i _ q | .altb i _ q=>i::heads q
 | _=>[]
def lastOf:Plan->List Nat
 | .done=>[]
 | .take _ p | .exec _ p=>lastOf p
 | .alt _ p q=>lastOf p++lastOf q
 | .brk i p=>i::lastOf p
 | .altb i p q=>i::(lastOf p++lastOf q)
def planOk (ops:Array Oper) (L:List Nat):Nat->Array Bool->Bool->Bool->Plan->Bool
 | _,listed,_,_,.done=>(Region.ready .any ops listed).isEmpty
 | fuel+1,listed,br,top,.take i p=>(top&&!br)&&((ops[i]?).isSome&&(Region.free .any ops listed i&&((Region.ready .any ops listed).contains i&&(lastB .any ops L i&&planOk ops L fuel (listed.setIfInBounds i true) false true p))))
 | fuel+1,listed,br,top,.exec i p=>!br&&((!top || (Region.ready .any ops listed==[i]))&&planOk ops L fuel (listed.setIfInBounds i true) false true p)
 | fuel+1,listed,br,top,.alt i p q=>!br&&((!top || (Region.ready .any ops listed==i::heads q))&&(planOk ops L fuel (listed.setIfInBounds i true) false true p&&planOk ops L (fuel+1) listed false false q))
 | fuel+1,listed,_,top,.brk i p=>memb L i&&((!top || (Region.ready .any ops listed==[i]))&&planOk ops L fuel (listed.setIfInBounds i true) true true p)
 | fuel+1,listed,br,top,.altb i p q=>memb L i&&((!top || (Region.ready .any ops listed==i::heads q))&&(planOk ops L fuel (listed.setIfInBounds i true) true true p&&planOk ops L (fuel+1) listed br false q))
 | 0,_,_,_,_=>false
def drawOk (ops:Array Oper) (p:Plan):Bool:=(Region.noSelect ops&&noDefer ops)&&planOk ops (lastOf p) ops.size (Array.replicate ops.size false) false true p
def Sub (cx:Cx) (n:Nat) (H:List Bk) (F:List Fact) (H0:List Bk) (F0:List Fact):Prop:= ∀β w,Sat cx β n H F w->Sat cx β n H0 F0 w
def tkwp (cx:Cx) (all:List Oper) (H0:List Bk) (F0:List Fact) (n:Nat) (env:Env) (H:List Bk) (F:List Fact) (o:Oper) (K:KT):Prop:=
 match slOk o.op with
 | true=>match o.guard with
  | none=>rowp cx n env H0 F0 o.op fun s=>put cx.N n env H F o.dst s K
  | some (j,want)=>match dstOf all j with
   | some t=>match get env t with
    | some (.c (.v (.bool b)))=>(match b with
      | true=>(match want with | true=>rowp cx n ((t,bl true)::env) H0 F0 o.op (fun s=>put cx.N n ((t,bl true)::env) H F o.dst s K) | false=>put cx.N n ((t,bl true)::env) H F o.dst (.c (.v undef)) K)
      | false=>(match want with | true=>put cx.N n ((t,bl false)::env) H F o.dst (.c (.v undef)) K | false=>rowp cx n ((t,bl false)::env) H0 F0 o.op (fun s=>put cx.N n ((t,bl false)::env) H F o.dst s K)))
    | some (.c (.v (.tuple _)))=>put cx.N n env H F o.dst (.c (.v undef)) K
    | _=>False
   | none=>False
 | false=>False
def dwp (cx:Cx) (all:List Oper) (H0:List Bk) (F0:List Fact):Plan->KT->KT
 | .done,K=>K
 | .take i p,K=>fun n env H F=>match nth all i with
  | some o=>tkwp cx all H0 F0 n env H F o (dwp cx all H0 F0 p K)
  | none=>False
 | .exec i p,K=>fun n env H F=>match nth all i with
  | some o=>gwp cx all n env H F o fun n env H F=>Sub cx n H F H0 F0/\dwp cx all H0 F0 p K n env H F
  | none=>False
 | .alt i p q,K=>fun n env H F=>match nth all i with
  | some o=>gwp cx all n env H F o (fun n env H F=>Sub cx n H F H0 F0/\dwp cx all H0 F0 p K n env H F)/\dwp cx all H0 F0 q K n env H F
  | none=>False
 | .brk i p,K=>fun n env H F=>match nth all i with
  | some o=>gwp cx all n env H F o (dwp cx all H0 F0 p K)
  | none=>False
 | .altb i p q,K=>fun n env H F=>match nth all i with
  | some o=>gwp cx all n env H F o (dwp cx all H0 F0 p K)/\dwp cx all H0 F0 q K n env H F
  | none=>False
section
variable {cx:Cx} {β β0:Va} {n n0:Nat} {env:Env} {H H0:List Bk} {F F0:List Fact} {a:Act} {w w':World}
theorem Sat.recast (h:Sat cx β n H F w) {β':Va} {m:Nat} (hb:Agr n β β') (hle:cx.bs.length<=m) (hm: ∀b∈H,b.id<m/\ ∀x∈b.cells,x.lt m):Sat cx β' m H F w:=by
 have hid: ∀b∈H,β' b.id=β b.id:=fun b hm=>hb.at_ b.id (h.ltb b hm).1
 refine ⟨h.chg,⟨hle,fun i hi=>by rw [hb.at_ i (Nat.lt_of_lt_of_le hi h.fix.1)];exact h.fix.2 i hi⟩,fun b hm=>?_,fun b hm=>?_,?_,hm,h.fact,h.flt,fun f hf b hm=>?_,h.fown,h.sepf,
  by rw [hb.pins];exact h.pin,by rw [hb.pins,hb.marks];exact h.mrk,by rw [hb.pins,hb.marks];exact h.rnd⟩
 ·rw [hid b hm,SL.map_congr hb (h.ltb b hm).2];exact h.blk b hm
 ·rw [hid b hm];exact h.mine b hm
 ·exact List.Pairwise.imp_of_mem (fun {b c} hb hc hne=>by rw [hid b hb,hid c hc];exact hne) h.inj
 ·rw [hid b hm];exact h.sepb f hf b hm
theorem Sat.up (h:Sat cx β n H F w) {β':Va} {m:Nat} (hb:Agr n β β') (hm:n<=m):Sat cx β' m H F w:=
 h.recast hb (Nat.le_trans h.fix.1 hm) fun b hb=>⟨Nat.lt_of_lt_of_le (h.ltb b hb).1 hm,fun x hx=>SL.lt_mono hm ((h.ltb b hb).2 x hx)⟩
theorem Sat.down (h:Sat cx β n H F w) {β':Va} {m:Nat} (hle:cx.bs.length<=m) (hb:Agr m β' β) (hm: ∀b∈H,b.id<m/\ ∀x∈b.cells,x.lt m):Sat cx β' m H F w:=by
 have h1:Sat cx β m H F w:=h.recast (Agr.refl _ _) hle hm
 exact h1.recast hb.symm hle hm
theorem z_tH (g:Good cx) (h:Inv cx β n env H F a w) (h0:Sat cx β n H0 F0 w) {ops:Array Oper} {o:Oper} {K:KT} (hp:tkwp cx ops.toList H0 F0 n env H F o K):
  ∃v,YieldsIf cx.P ops (fun u=>Sat cx β n H0 F0 u) o v a/\AfterE cx β n K (a.put o.dst v) w:=by
 have row: ∀(env':Env),Inv cx β n env' H F a w-> ∀(hsl:slOk o.op=true),rowp cx n env' H0 F0 o.op (fun s=>put cx.N n env' H F o.dst s K)->
   ∃v,(∀u,Sat cx β n H0 F0 u->(execOp a.eval o).run cx.P u= .ok (.value v) u)/\AfterE cx β n K (a.put o.dst v) w:=by
  intro env' h' hsl hr
  have h'':Inv cx β n env' H0 F0 a w:=⟨h'.ag,h'.size,h'.df,h'.lte,h0⟩
  obtain ⟨r,h1,h2,h3⟩:=z_pI g h'' o (z_rA hsl) hr
  exact ⟨r.val β,h3,z_aL h' h1 h2⟩
 unfold tkwp at hp
 split at hp
 ·rename_i hsl
  split at hp
  ·rename_i hg
   obtain ⟨v,h1,h2⟩:=row env h hsl hp
   exact ⟨v,.inl ⟨by simp [Region.wanted,hg],h1⟩,h2⟩
  ·rename_i j want hg
   split at hp
   ·rename_i t hdt
    have hop:(ops[j]?).bind (·.dst)=some t:=by
     unfold dstOf at hdt
     rw [z_aX] at hdt
     split at hdt
     ·rename_i o' ho'
      have:ops[j]?=some o':=by simpa using ho'
      rw [this];exact hdt
     ·cases hdt
    split at hp
    ·rename_i b hb
     have hy:yielded ops a.tmps j=some b:=by
      have:=h.ag t _ hb
      simp only [SV.val,SL.val] at this
      simp [yielded,hop,this]
     obtain ⟨hT,hF⟩:=(show BIf _ _ _ from hp).out
     have hw:Region.wanted o (yielded ops a.tmps)=(b==want):=by simp [Region.wanted,hg,hy]
     cases b<;>cases want
     ·obtain ⟨v,h1,h2⟩:=row _ (h.shadow hb) hsl (hF rfl)
      exact ⟨v,.inl ⟨by rw [hw];rfl,h1⟩,h2⟩
     ·exact ⟨undef,.inr ⟨by rw [hw];rfl,rfl⟩,z_aL (s:= .c (.v undef)) (h.shadow hb) trivial (hF rfl)⟩
     ·exact ⟨undef,.inr ⟨by rw [hw];rfl,rfl⟩,z_aL (s:= .c (.v undef)) (h.shadow hb) trivial (hT rfl)⟩
     ·obtain ⟨v,h1,h2⟩:=row _ (h.shadow hb) hsl (hT rfl)
      exact ⟨v,.inl ⟨by rw [hw];rfl,h1⟩,h2⟩
    ·rename_i vs hb
     have hy:yielded ops a.tmps j=none:=by
      have:=h.ag t _ hb
      simp only [SV.val,SL.val] at this
      simp [yielded,hop,this]
     exact ⟨undef,.inr ⟨by simp [Region.wanted,hg,hy],rfl⟩,z_aL (s:= .c (.v undef)) h trivial hp⟩
    ·exact hp.elim
   ·exact hp.elim
 ·exact hp.elim
theorem YieldsIf.held {P:Program} {ops:Array Oper} {S T:World->Prop} (hST: ∀w,T w->S w) {o:Oper} {v:Value} {a:Act} (h:YieldsIf P ops S o v a):YieldsIf P ops T o v a:=
 h.imp (fun ⟨h1,h2⟩=>⟨h1,fun w hw=>h2 w (hST w hw)⟩) id
theorem z_vD (g:Good cx) {L:List Nat} {ops:Array Oper} {K:KT} {Q:Exit->KT} (hK:K=Q .normal) (hle:cx.bs.length<=n0) (hsel:Region.noSelect ops=true) (hnd:noDefer ops=true) (hm: ∀b∈H0,b.id<n0/\ ∀x∈b.cells,x.lt n0):
  ∀(p:Plan) (fuel:Nat) (listed:Array Bool) (br top:Bool) (β:Va) (n:Nat) (env:Env) (H:List Bk) (F:List Fact) (a:Act) (w:World),planOk ops L fuel listed br top p=true->Agr n0 β0 β->n0<=n->
   Inv cx β n env H F a w->(br=false->Sat cx β0 n0 H0 F0 w)->dwp cx ops.toList H0 F0 p K n env H F->
   (top=true->anyH cx.fence cx.P .any ops (Post cx Q) (fun u=>Sat cx β0 n0 H0 F0 u) L fuel listed a w)/\
   (∀m,fuel=m+1-> ∀k∈heads p,wpOpIn cx.fence 0 cx.P ops (Post cx Q) k (fun a' w'=>(Sat cx β0 n0 H0 F0 w'\/k∈L)/\anyH cx.fence cx.P .any ops (Post cx Q) (fun u=>Sat cx β0 n0 H0 F0 u) L m (listed.setIfInBounds k true) a' w') a w):=by
 have exec1: ∀(i:Nat) (p:Plan) (fuel:Nat) (listed:Array Bool),(∀(β:Va) (n:Nat) (env:Env) (H:List Bk) (F:List Fact) (a:Act) (w:World),Agr n0 β0 β->n0<=n->
   Inv cx β n env H F a w->Sat cx β0 n0 H0 F0 w->dwp cx ops.toList H0 F0 p K n env H F->anyH cx.fence cx.P .any ops (Post cx Q) (fun u=>Sat cx β0 n0 H0 F0 u) L fuel (listed.setIfInBounds i true) a w)->
   ∀(β:Va) (n:Nat) (env:Env) (H:List Bk) (F:List Fact) (a:Act) (w:World) (o:Oper),Agr n0 β0 β->n0<=n->Inv cx β n env H F a w->ops[i]?=some o->
   gwp cx ops.toList n env H F o (fun n env H F=>Sub cx n H F H0 F0/\dwp cx ops.toList H0 F0 p K n env H F)->
   wpOpIn cx.fence 0 cx.P ops (Post cx Q) i (fun a' w'=>(Sat cx β0 n0 H0 F0 w'\/i∈L)/\anyH cx.fence cx.P .any ops (Post cx Q) (fun u=>Sat cx β0 n0 H0 F0 u) L fuel (listed.setIfInBounds i true) a' w') a w:=by
  intro i p fuel listed ih β n env H F a w o hb hn h hi hg
  have hs:=z_mT (Q:=Post cx Q) (K':=fun a' w'=>(Sat cx β0 n0 H0 F0 w'\/i∈L)/\anyH cx.fence cx.P .any ops (Post cx Q) (fun u=>Sat cx β0 n0 H0 F0 u) L fuel (listed.setIfInBounds i true) a' w') g h hg (by
   rintro a' w' ⟨β',n',env',H',F',h1,h2,h3,h4,h5⟩
   have hb':Agr n0 β0 β':=hb.trans h1 hn
   have hsat:Sat cx β0 n0 H0 F0 w':=(h4 β' w' h3.sat).down hle hb' hm
   exact ⟨.inl hsat,ih β' n' env' H' F' a' w' hb' (Nat.le_trans hn h2) h3 hsat h5⟩)
  unfold wpOpIn
  simp only [hi]
  split at hs
  ·rename_i hw;rw [if_pos hw];exact hs
  ·rename_i hw;rw [if_neg hw];exact ⟨fun f _=>cx.fence_fn f,hs⟩
 have exec2: ∀(i:Nat) (p:Plan) (fuel:Nat) (listed:Array Bool),i∈L->(∀(β:Va) (n:Nat) (env:Env) (H:List Bk) (F:List Fact) (a:Act) (w:World),Agr n0 β0 β->n0<=n->
   Inv cx β n env H F a w->dwp cx ops.toList H0 F0 p K n env H F->anyH cx.fence cx.P .any ops (Post cx Q) (fun u=>Sat cx β0 n0 H0 F0 u) L fuel (listed.setIfInBounds i true) a w)->
   ∀(β:Va) (n:Nat) (env:Env) (H:List Bk) (F:List Fact) (a:Act) (w:World) (o:Oper),Agr n0 β0 β->n0<=n->Inv cx β n env H F a w->ops[i]?=some o->
   gwp cx ops.toList n env H F o (dwp cx ops.toList H0 F0 p K)->
   wpOpIn cx.fence 0 cx.P ops (Post cx Q) i (fun a' w'=>(Sat cx β0 n0 H0 F0 w'\/i∈L)/\anyH cx.fence cx.P .any ops (Post cx Q) (fun u=>Sat cx β0 n0 H0 F0 u) L fuel (listed.setIfInBounds i true) a' w') a w:=by
  intro i p fuel listed hiL ih β n env H F a w o hb hn h hi hg
  have hs:=z_mT (Q:=Post cx Q) (K':=fun a' w'=>(Sat cx β0 n0 H0 F0 w'\/i∈L)/\anyH cx.fence cx.P .any ops (Post cx Q) (fun u=>Sat cx β0 n0 H0 F0 u) L fuel (listed.setIfInBounds i true) a' w') g h hg (by
   rintro a' w' ⟨β',n',env',H',F',h1,h2,h3,h5⟩
   exact ⟨.inr hiL,ih β' n' env' H' F' a' w' (hb.trans h1 hn) (Nat.le_trans hn h2) h3 h5⟩)
  unfold wpOpIn
  simp only [hi]
  split at hs
  ·rename_i hw;rw [if_pos hw];exact hs
  ·rename_i hw;rw [if_neg hw];exact ⟨fun f _=>cx.fence_fn f,hs⟩
 have getop: ∀i o,nth ops.toList i=some o->ops[i]?=some o:=fun i o h=>by rw [z_aX] at h;simpa using h
 intro p
 induction p with
 | done=>
  intro fuel listed br top β n env H F a w hok hb hn h h0 hp
  have hr:Region.ready .any ops listed=[]:=by cases fuel<;>simpa [planOk] using hok
  refine ⟨fun _=>z_v6 hr (by
   subst hK
   exact ⟨β,n,env,H,F,h,hp⟩) fuel,fun m _ k hk=>by cases hk⟩
 | take i p ih=>
  intro fuel listed br top β n env H F a w hok hb hn h h0 hp
  cases fuel with
  | zero=>simp [planOk] at hok
  | succ fuel=>
   simp only [planOk,Bool.and_eq_true,Bool.not_eq_true'] at hok
   obtain ⟨⟨_,hbr⟩,hi,hf,hr,hlb,hok⟩:=hok
   have h0:=h0 hbr
   simp only [dwp] at hp
   split at hp
   ·rename_i o ho
    have hoi:=getop i o ho
    have hST: ∀u,Sat cx β0 n0 H0 F0 u->Sat cx β n H0 F0 u:=fun u hu=>hu.up hb hn
    obtain ⟨v,h1,β',n',env',H',F',h2,h3,h4,h5⟩:=z_tH g h (hST w h0) hp
    refine ⟨fun _=>z_u1 cx.fence_fn hnd hoi hsel hf hr hlb (fun _ _ _ q=>q.elim) (YieldsIf.held hST h1) h0 ?_,fun m _ k hk=>by cases hk⟩
    exact (ih fuel _ false true β' n' env' H' F' _ w hok (hb.trans h2 hn) (Nat.le_trans hn h3) h4 (fun _=>h0) h5).1 rfl
   ·exact hp.elim
 | exec i p ih=>
  intro fuel listed br top β n env H F a w hok hb hn h h0 hp
  cases fuel with
  | zero=>simp [planOk] at hok
  | succ fuel=>
   simp only [planOk,Bool.and_eq_true,Bool.or_eq_true,Bool.not_eq_true',beq_iff_eq] at hok
   obtain ⟨_,hr,hok⟩:=hok
   simp only [dwp] at hp
   split at hp
   ·rename_i o ho
    have key:=exec1 i p fuel listed (fun β n env H F a w q1 q2 q3 q4 q5=>(ih fuel _ false true β n env H F a w hok q1 q2 q3 (fun _=>q4) q5).1 rfl) β n env H F a w o hb hn h (getop _ o ho) hp
    refine ⟨fun ht=>?_,fun m hm k hk=>?_⟩
    ·subst ht
     refine z_n5 (rs:=[i]) (by simpa using hr) (by simp) (fun j hj=>?_)
     obtain rfl:=List.mem_singleton.1 hj
     exact key
    ·obtain rfl:=List.mem_singleton.1 hk
     obtain rfl:fuel=m:=by omega
     exact key
   ·exact hp.elim
 | brk i p ih=>
  intro fuel listed br top β n env H F a w hok hb hn h h0 hp
  cases fuel with
  | zero=>simp [planOk] at hok
  | succ fuel=>
   simp only [planOk,Bool.and_eq_true,Bool.or_eq_true,Bool.not_eq_true',beq_iff_eq] at hok
   obtain ⟨hiL,hr,hok⟩:=hok
   simp only [dwp] at hp
   split at hp
   ·rename_i o ho
    have key:=exec2 i p fuel listed (z_n7 hiL) (fun β n env H F a w q1 q2 q3 q5=>(ih fuel _ true true β n env H F a w hok q1 q2 q3 (fun q=>by cases q) q5).1 rfl) β n env H F a w o hb hn h (getop _ o ho) hp
    refine ⟨fun ht=>?_,fun m hm k hk=>?_⟩
    ·subst ht
     refine z_n5 (rs:=[i]) (by simpa using hr) (by simp) (fun j hj=>?_)
     obtain rfl:=List.mem_singleton.1 hj
     exact key
    ·obtain rfl:=List.mem_singleton.1 hk
     obtain rfl:fuel=m:=by omega
     exact key
   ·exact hp.elim
 | alt i p q ihp ihq=>
  intro fuel listed br top β n env H F a w hok hb hn h h0 hp
  cases fuel with
  | zero=>simp [planOk] at hok
  | succ fuel=>
   simp only [planOk,Bool.and_eq_true,Bool.or_eq_true,Bool.not_eq_true',beq_iff_eq] at hok
   obtain ⟨hbr,hr,hok1,hok2⟩:=hok
   simp only [dwp] at hp
   split at hp
   ·rename_i o ho
    obtain ⟨hp1,hp2⟩:=hp
    have key:=exec1 i p fuel listed (fun β n env H F a w q1 q2 q3 q4 q5=>(ihp fuel _ false true β n env H F a w hok1 q1 q2 q3 (fun _=>q4) q5).1 rfl) β n env H F a w o hb hn h (getop _ o ho) hp1
    have key2:=(ihq (fuel+1) listed false false β n env H F a w hok2 hb hn h (fun _=>h0 hbr) hp2).2 fuel rfl
    have both: ∀k∈i::heads q,wpOpIn cx.fence 0 cx.P ops (Post cx Q) k (fun a' w'=>(Sat cx β0 n0 H0 F0 w'\/k∈L)/\anyH cx.fence cx.P .any ops (Post cx Q) (fun u=>Sat cx β0 n0 H0 F0 u) L fuel (listed.setIfInBounds k true) a' w') a w:=by
     intro k hk
     rcases List.mem_cons.1 hk with rfl | hk
     ·exact key
     ·exact key2 k hk
    refine ⟨fun ht=>?_,fun m hm k hk=>?_⟩
    ·subst ht
     exact z_n5 (rs:=i::heads q) (by simpa using hr) (by simp) both
    ·obtain rfl:fuel=m:=by omega
     exact both k hk
   ·exact hp.elim
 | altb i p q ihp ihq=>
  intro fuel listed br top β n env H F a w hok hb hn h h0 hp
  cases fuel with
  | zero=>simp [planOk] at hok
  | succ fuel=>
   simp only [planOk,Bool.and_eq_true,Bool.or_eq_true,Bool.not_eq_true',beq_iff_eq] at hok
   obtain ⟨hiL,hr,hok1,hok2⟩:=hok
   simp only [dwp] at hp
   split at hp
   ·rename_i o ho
    obtain ⟨hp1,hp2⟩:=hp
    have key:=exec2 i p fuel listed (z_n7 hiL) (fun β n env H F a w q1 q2 q3 q5=>(ihp fuel _ true true β n env H F a w hok1 q1 q2 q3 (fun q=>by cases q) q5).1 rfl) β n env H F a w o hb hn h (getop _ o ho) hp1
    have key2:=(ihq (fuel+1) listed br false β n env H F a w hok2 hb hn h h0 hp2).2 fuel rfl
    have both: ∀k∈i::heads q,wpOpIn cx.fence 0 cx.P ops (Post cx Q) k (fun a' w'=>(Sat cx β0 n0 H0 F0 w'\/k∈L)/\anyH cx.fence cx.P .any ops (Post cx Q) (fun u=>Sat cx β0 n0 H0 F0 u) L fuel (listed.setIfInBounds k true) a' w') a w:=by
     intro k hk
     rcases List.mem_cons.1 hk with rfl | hk
     ·exact key
     ·exact key2 k hk
    refine ⟨fun ht=>?_,fun m hm k hk=>?_⟩
    ·subst ht
     exact z_n5 (rs:=i::heads q) (by simpa using hr) (by simp) both
    ·obtain rfl:fuel=m:=by omega
     exact both k hk
   ·exact hp.elim
theorem Inv.drew (h:Inv cx β n env H F a w):Inv cx β n env H F a w.drew:=⟨h.ag,h.size,h.df,h.lte,h.sat.drew⟩
theorem z_af (g:Good cx) {id:Nat} {ops:Array Oper} {Q:Exit->KT} (p:Plan) (hok:drawOk ops p=true) (H0:List Bk) (F0:List Fact) (hsub:Sub cx n H F H0 F0)
  (h:dwp cx ops.toList H0 F0 p (Q .normal) n env H F):Tri cx (.region id ops true) Q n env H F:=by
 refine ⟨fun β a w hi=>?_⟩
 simp only [drawOk,Bool.and_eq_true] at hok
 have hs:=(hsub β w.drew hi.drew.sat)
 exact z_si (S:=fun u=>Sat cx β n H0 F0 u) g.mixed ((z_vD g rfl hs.fix.1 hok.1.1 hok.1.2 hs.ltb p ops.size _ false true β n env H F a w.drew hok.2 (Agr.refl _ _) (Nat.le_refl _) hi.drew (fun _=>hs) h).1 rfl)
theorem Sub.refl:Sub cx n H F H F:=fun _ _ h=>h
theorem Sat.weaken (h:Sat cx β n H F w) {H':List Bk} {F':List Fact} (h1:List.Sublist H' H) (h2:List.Sublist F' F):Sat cx β n H' F' w:=
 ⟨h.chg,h.fix,fun b hb=>h.blk b (h1.subset hb),fun b hb=>h.mine b (h1.subset hb),h.inj.sublist h1,fun b hb=>h.ltb b (h1.subset hb),fun f hf=>h.fact f (h2.subset hf),fun f hf=>h.flt f (h2.subset hf),
  fun f hf b hb=>h.sepb f (h2.subset hf) b (h1.subset hb),fun f hf=>h.fown f (h2.subset hf),h.sepf.sublist h2,fun p hp=>⟨(h.pin p hp).1,(h.pin p hp).2.1,fun f hf=>(h.pin p hp).2.2 f (h2.subset hf)⟩,h.mrk,h.rnd⟩
theorem Sub.of {H':List Bk} {F':List Fact} (h1:List.Sublist H' H) (h2:List.Sublist F' F):Sub cx n H F H' F':=fun _ _ h=>h.weaken h1 h2
theorem Sub.dropF (k:Nat) (h:F.drop k=F0):Sub cx n H F H F0:=Sub.of (List.Sublist.refl _) (by rw [<-h];exact List.drop_sublist _ _)
end
end Go.Proofs.YtfomhhkoamapmaaGreatDoor.Sx
