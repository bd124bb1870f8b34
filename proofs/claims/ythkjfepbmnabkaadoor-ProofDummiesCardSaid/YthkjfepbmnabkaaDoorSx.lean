/- A small symbolic executor over the model's code, proved sound: frames as association lists, local blocks by literal numbers, facts on memory with footprints. Plain definitions and theorems. -/
import Derived.WalkKit
import Derived.KernelRfl
import Derived.OrdersHeld
import Derived.OrdersIn
import Derived.RangeFuncNested
import Derived.RangeFuncLeaves
namespace Go.Proofs.YthkjfepbmnabkaaDoor.Sx
open Go

/-- Only blocks of S, and new ones, may differ. -/
structure Chg (S : Nat → Prop) (w w' : World) : Prop where
  os : w'.os = w.os
  tape : w'.tape = w.tape
  output : w'.output = w.output
  size : w.heap.size ≤ w'.heap.size
  same : ∀ k, k < w.heap.size → ¬ S k → w'.heap[k]? = w.heap[k]?

def None_ : Nat → Prop := fun _ => False

theorem Chg.refl (S : Nat → Prop) (w : World) : Chg S w w := ⟨rfl, rfl, rfl, Nat.le_refl _, fun _ _ _ => rfl⟩
theorem Chg.trans {S T U : Nat → Prop} {a b c : World} (h : Chg S a b) (k : Chg T b c) (hs : ∀ i, i < a.heap.size → S i → U i) (ht : ∀ i, i < a.heap.size → T i → U i) : Chg U a c :=
  ⟨k.os.trans h.os, k.tape.trans h.tape, k.output.trans h.output, Nat.le_trans h.size k.size, fun i hi hn =>
    (k.same i (Nat.lt_of_lt_of_le hi h.size) (fun q => hn (ht i hi q))).trans (h.same i hi (fun q => hn (hs i hi q)))⟩
theorem Chg.mono {S T : Nat → Prop} {a b : World} (h : Chg S a b) (hs : ∀ i, i < a.heap.size → S i → T i) : Chg T a b :=
  ⟨h.os, h.tape, h.output, h.size, fun i hi hn => h.same i hi (fun q => hn (hs i hi q))⟩

/-- What is known behind the scenes: where the numbered blocks lie; objects that stay as they are (a loop's record, the marks of loops behind us). -/
structure Va where
  b : Nat → Nat
  pins : List (Nat × Obj)
  marks : List Nat
instance : CoeFun Va (fun _ => Nat → Nat) := ⟨Va.b⟩
/-- Below n they are the same. -/
structure Agr (n : Nat) (β β' : Va) : Prop where
  pins : β'.pins = β.pins
  marks : β'.marks = β.marks
  at_ : ∀ i, i < n → β' i = β i
theorem Agr.refl (n : Nat) (β : Va) : Agr n β β := ⟨rfl, rfl, fun _ _ => rfl⟩
theorem Agr.trans {n m : Nat} {a b c : Va} (h : Agr n a b) (k : Agr m b c) (hn : n ≤ m) : Agr n a c :=
  ⟨k.pins.trans h.pins, k.marks.trans h.marks, fun i hi => (k.at_ i (Nat.lt_of_lt_of_le hi hn)).trans (h.at_ i hi)⟩
theorem Agr.symm {n : Nat} {a b : Va} (h : Agr n a b) : Agr n b a := ⟨h.pins.symm, h.marks.symm, fun i hi => (h.at_ i hi).symm⟩
theorem Agr.le {n m : Nat} {a b : Va} (h : Agr m a b) (hn : n ≤ m) : Agr n a b := ⟨h.pins, h.marks, fun i hi => h.at_ i (Nat.lt_of_lt_of_le hi hn)⟩
def Va.set (β : Va) (n x : Nat) : Va := ⟨fun i => if i = n then x else β i, β.pins, β.marks⟩
theorem Va.set_same (β : Va) (n x : Nat) : (β.set n x) n = x := by simp [Va.set]
theorem Va.set_other (β : Va) {n i : Nat} (x : Nat) (h : i ≠ n) : (β.set n x) i = β i := by simp [Va.set, h]
theorem Va.set_agr (β : Va) (n x : Nat) : Agr n β (β.set n x) := ⟨rfl, rfl, fun i hi => β.set_other x (Nat.ne_of_lt hi)⟩
/-- Nothing yet. -/
def Va.z : Va := ⟨fun _ => 0, [], []⟩
def Va.of (f : Nat → Nat) : Va := ⟨f, [], []⟩

/-- One cell, symbolically: a value as it is, or the address of a local block. -/
inductive SL where
  | v (x : Value)
  | p (id off : Nat)
def SL.val (β : Va) : SL → Value
  | .v x => x
  | .p id off => .pointer (some ⟨β id, off, none⟩)
def SL.lt (n : Nat) : SL → Prop
  | .v _ => True
  | .p id _ => id < n
inductive SV where
  | c (x : SL)
  | agg (xs : List SL)
  | fn (f : Fn) (first caps : List SL)
def SV.val (β : Va) : SV → Value
  | .c x => x.val β
  | .agg xs => .agg (xs.map (SL.val β)).toArray
  | .fn f first caps => .func f (first.map (SL.val β)).toArray (caps.map (SL.val β)).toArray
def SV.lt (n : Nat) : SV → Prop
  | .c x => x.lt n
  | .agg xs => ∀ x ∈ xs, x.lt n
  | .fn _ first caps => (∀ x ∈ first, x.lt n) ∧ ∀ x ∈ caps, x.lt n

theorem SL.val_congr {β β' : Va} {n : Nat} (h : Agr n β β') {x : SL} (hx : x.lt n) : x.val β' = x.val β := by
  cases x with
  | v x => rfl
  | p id off => simp only [SL.val, h.at_ id hx]
theorem SL.map_congr {β β' : Va} {n : Nat} (h : Agr n β β') {xs : List SL} (hx : ∀ x ∈ xs, x.lt n) : xs.map (SL.val β') = xs.map (SL.val β) :=
  List.map_congr_left fun x hm => SL.val_congr h (hx x hm)
theorem SV.val_congr {β β' : Va} {n : Nat} (h : Agr n β β') {x : SV} (hx : x.lt n) : x.val β' = x.val β := by
  cases x with
  | c x => exact SL.val_congr h hx
  | agg xs => simp only [SV.val, SL.map_congr h hx]
  | fn f a b => simp only [SV.val, SL.map_congr h hx.1, SL.map_congr h hx.2]
theorem SL.lt_mono {n m : Nat} (h : n ≤ m) {x : SL} (hx : x.lt n) : x.lt m := by
  cases x with
  | v x => trivial
  | p id off => exact Nat.lt_of_lt_of_le hx h
theorem SV.lt_mono {n m : Nat} (h : n ≤ m) {x : SV} (hx : x.lt n) : x.lt m := by
  cases x with
  | c x => exact SL.lt_mono h hx
  | agg xs => exact fun x hm => SL.lt_mono h (hx x hm)
  | fn f a b => exact ⟨fun x hm => SL.lt_mono h (hx.1 x hm), fun x hm => SL.lt_mono h (hx.2 x hm)⟩

abbrev Env := List (Nat × SV)
def get : Env → Nat → Option SV
  | [], _ => none
  | (t, s) :: r, u => match Nat.beq t u with | true => some s | false => get r u
theorem get_same (r : Env) (t : Nat) (s : SV) : get ((t, s) :: r) t = some s := by
  simp [get, Nat.beq_refl]
theorem get_other (r : Env) {t u : Nat} (s : SV) (h : t ≠ u) : get ((t, s) :: r) u = get r u := by
  have : Nat.beq t u = false := by
    cases hb : Nat.beq t u with
    | false => rfl
    | true => exact absurd (Nat.eq_of_beq_eq_true hb) h
  simp [get, this]

/-- A fact on memory: its blocks D, and that it hangs on nothing else. 'own': no other fact shares a block with it. -/
structure Fact where
  own : Bool
  D : Nat → Prop
  p : World → Prop
  st : ∀ w w', (∀ k, D k → w'.heap[k]? = w.heap[k]?) → p w → p w'

/-- A local block, all of whose cells are known. -/
structure Bk where
  id : Nat
  ty : TypeId
  cells : List SL

/-- A type's shape, without names. -/
inductive TD where
  | bool | string | struct | other
  | int (k : IntKind)
  | pointer (e : TypeId)
  | slice (e : TypeId)
  | array (n : Nat) (e : TypeId)
  | map (k e : TypeId)
def shapeD : TypeDesc → TD
  | .bool => .bool
  | .string => .string
  | .struct _ => .struct
  | .int k => .int k
  | .pointer e => .pointer e
  | .slice e => .slice e
  | .array n e => .array n e
  | .map k e => .map k e
  | _ => .other
def plainD : TypeDesc → Bool
  | .bool | .string | .int _ | .pointer _ | .slice _ | .array _ _ | .map _ _ => true
  | _ => false
theorem shapeD_plain {d d' : TypeDesc} (h : shapeD d' = shapeD d) (hp : plainD d = true) : d' = d := by
  cases d <;> first
    | (cases hp; done)
    | (cases d' <;> first
      | (cases h; done)
      | (cases h; rfl))
def aggD : TD → Bool
  | .struct | .array _ _ => true
  | _ => false
def fieldsOf (P : Program) (t : TypeId) : List Field := match P.underlying t with | some (.struct fs) => fs.toList | _ => []

/-- What is known of a type. -/
structure TI where
  desc : TD
  agg : Bool
  size : Nat
  bytes : Nat
  zero : List Value
  fields : List (Nat × Nat)
  ftys : List Nat
def lk : List (Nat × TI) → Nat → Option TI
  | [], _ => none
  | (t, i) :: r, u => match Nat.beq t u with | true => some i | false => lk r u

structure TiOk (P : Program) (t : TypeId) (i : TI) : Prop where
  under : (P.underlying t).map shapeD = some i.desc
  info : (P.info? t).map (fun x => (x.zero.map (fun z => z.cells.toList), x.size, x.bytes)) = some (some i.zero, i.size, i.bytes)
  agg : i.agg = aggD i.desc
  len : i.zero.length = i.size
  fields : (fieldsOf P t).map (fun f => (f.offset, P.info? f.type |>.map (·.size))) = i.fields.map (fun q => (q.1, some q.2))
  ftys : (fieldsOf P t).map (·.type) = i.ftys
theorem TiOk.real {P : Program} {t : TypeId} {i : TI} (h : TiOk P t i) {d : TypeDesc} (hd : i.desc = shapeD d) (hp : plainD d = true) : P.underlying t = some d := by
  obtain ⟨d', h1, h2⟩ := Option.map_eq_some_iff.1 h.under
  rw [hd] at h2
  rw [h1, shapeD_plain h2 hp]
theorem TiOk.struct {P : Program} {t : TypeId} {i : TI} (h : TiOk P t i) (hd : i.desc = .struct) : ∃ fs, P.underlying t = some (.struct fs) ∧ fieldsOf P t = fs.toList := by
  obtain ⟨d', h1, h2⟩ := Option.map_eq_some_iff.1 h.under
  rw [hd] at h2
  cases d' <;> first
    | (cases h2; done)
    | exact ⟨_, h1, by simp [fieldsOf, h1]⟩

structure Cx where
  P : Program
  W0 : World
  S : Nat → Prop
  N : Nat
  tt : List (Nat × TI)
  fns : List Nat
  bs : List Nat
  rnd : Option Nat
  pn : List (Nat × Obj)
/-- Where the code runs: within a round, or not. -/
def Cx.fence (cx : Cx) : Fence := match cx.rnd with | none => Fence.wide | some l => Fence.wide.inRound l
theorem Cx.fence_fn (cx : Cx) (f : Nat) : cx.fence.fn f := by unfold Cx.fence; cases cx.rnd <;> trivial
theorem Cx.fence_depth (cx : Cx) : cx.fence.depth = none := by unfold Cx.fence; cases cx.rnd <;> rfl
theorem Cx.fence_round (cx : Cx) : cx.fence.round = cx.rnd := by unfold Cx.fence; cases cx.rnd <;> rfl
def memb : List Nat → Nat → Bool
  | [], _ => false
  | x :: r, y => match Nat.beq x y with | true => true | false => memb r y
theorem memb_mem {l : List Nat} {y : Nat} (h : memb l y = true) : y ∈ l := by
  induction l with
  | nil => cases h
  | cons x r ih =>
    simp only [memb] at h
    cases hb : Nat.beq x y with
    | true => rw [Nat.eq_of_beq_eq_true hb]; exact List.mem_cons_self
    | false => rw [hb] at h; exact List.mem_cons_of_mem _ (ih h)
/-- A function that is entered when it is called. -/
def callable (P : Program) (f : Nat) : Bool := match P.funcs[f]? with | some fn => fn.body.isSome && !(fn.name == "runtime.NumGoroutine") | none => false
structure Good (cx : Cx) : Prop where
  ok : ∀ e ∈ cx.tt, TiOk cx.P e.1 e.2
  fn : ∀ f ∈ cx.fns, callable cx.P f = true
  mixed : cx.P.follows .mixedOrders = true

theorem lk_mem {l : List (Nat × TI)} {t : Nat} {i : TI} (h : lk l t = some i) : (t, i) ∈ l := by
  induction l with
  | nil => cases h
  | cons e r ih =>
    obtain ⟨u, j⟩ := e
    simp only [lk] at h
    cases hb : Nat.beq u t with
    | true =>
      have := Nat.eq_of_beq_eq_true hb
      subst this
      simp only [hb, Option.some.injEq] at h
      subst h
      exact List.mem_cons_self
    | false => simp only [hb] at h; exact List.mem_cons_of_mem _ (ih h)
theorem Good.ti {cx : Cx} (g : Good cx) {t : Nat} {i : TI} (h : lk cx.tt t = some i) : TiOk cx.P t i := g.ok _ (lk_mem h)

structure Sat (cx : Cx) (β : Va) (n : Nat) (H : List Bk) (F : List Fact) (w : World) : Prop where
  chg : Chg cx.S cx.W0 w
  fix : cx.bs.length ≤ n ∧ ∀ i, i < cx.bs.length → β i = cx.bs.getD i 0
  blk : ∀ b ∈ H, w.heap[β b.id]? = some (.cells (b.cells.map (SL.val β)).toArray b.ty (0, 0))
  mine : ∀ b ∈ H, cx.S (β b.id) ∨ cx.W0.heap.size ≤ β b.id
  inj : H.Pairwise (fun b c => β b.id ≠ β c.id)
  ltb : ∀ b ∈ H, b.id < n ∧ ∀ x ∈ b.cells, x.lt n
  fact : ∀ f ∈ F, f.p w
  flt : ∀ f ∈ F, ∀ k, f.D k → k < w.heap.size
  sepb : ∀ f ∈ F, ∀ b ∈ H, ¬ f.D (β b.id)
  fown : ∀ f ∈ F, f.own = true → ∀ k, f.D k → cx.S k ∨ cx.W0.heap.size ≤ k
  sepf : F.Pairwise (fun f g => f.own = true ∨ g.own = true → ∀ k, f.D k → ¬ g.D k)
  pin : ∀ p ∈ β.pins, w.heap[p.1]? = some p.2 ∧ p.2.isCells = false ∧ ∀ f ∈ F, ¬ f.D p.1
  mrk : β.marks.Nodup ∧ ∀ r ∈ β.marks, (r, Obj.deferred (some [])) ∈ β.pins ∧ cx.W0.heap.size ≤ r
  rnd : (∀ p ∈ cx.pn, p ∈ β.pins) ∧ ∀ l, cx.rnd = some l → β.marks = [] ∧ ∃ r, (l, Obj.loop r) ∈ β.pins

structure Inv (cx : Cx) (β : Va) (n : Nat) (env : Env) (H : List Bk) (F : List Fact) (a : Act) (w : World) : Prop where
  ag : ∀ t s, get env t = some s → a.tmps[t]? = some (s.val β)
  size : a.tmps.size = cx.N
  df : a.defers = β.marks.map (fun r => { target := .collected r, args := #[] })
  lte : ∀ t s, get env t = some s → s.lt n
  sat : Sat cx β n H F w
abbrev KT := Nat → Env → List Bk → List Fact → Prop

/-- The block of a local one, below the heap's size. -/
theorem Sat.lt {cx : Cx} {β : Va} {n : Nat} {H : List Bk} {F : List Fact} {w : World} (h : Sat cx β n H F w) {b : Bk} (hb : b ∈ H) : β b.id < w.heap.size := by
  have := h.blk b hb
  rcases Nat.lt_or_ge (β b.id) w.heap.size with hlt | hge
  · exact hlt
  · rw [Array.getElem?_eq_none hge] at this; cases this

theorem Sat.drew {cx : Cx} {β : Va} {n : Nat} {H : List Bk} {F : List Fact} {w : World} (h : Sat cx β n H F w) : Sat cx β n H F w.drew :=
  ⟨⟨h.chg.os, h.chg.tape, h.chg.output, h.chg.size, h.chg.same⟩, h.fix, h.blk, h.mine, h.inj, h.ltb, fun f hf => f.st w w.drew (fun _ _ => rfl) (h.fact f hf), h.flt, h.sepb, h.fown, h.sepf, h.pin, h.mrk, h.rnd⟩

theorem Sat.pinLt {cx : Cx} {β : Va} {n : Nat} {H : List Bk} {F : List Fact} {w : World} (h : Sat cx β n H F w) {p : Nat × Obj} (hp : p ∈ β.pins) : p.1 < w.heap.size :=
  (Array.getElem?_eq_some_iff.1 (h.pin p hp).1).1
theorem Sat.pinBk {cx : Cx} {β : Va} {n : Nat} {H : List Bk} {F : List Fact} {w : World} (h : Sat cx β n H F w) {p : Nat × Obj} (hp : p ∈ β.pins) {b : Bk} (hb : b ∈ H) : β b.id ≠ p.1 := by
  intro q
  have h1 := h.blk b hb
  have h2 := h.pin p hp
  rw [q, h2.1] at h1
  have h3 := h2.2.1
  rw [Option.some.inj h1] at h3
  cases h3

/-- A new local block. -/
theorem Sat.new {cx : Cx} {β : Va} {n : Nat} {H : List Bk} {F : List Fact} {w : World} (h : Sat cx β n H F w) (ty : TypeId) (xs : List SL) (hx : ∀ x ∈ xs, x.lt n) :
    Sat cx (β.set n w.heap.size) (n + 1) (⟨n, ty, xs⟩ :: H) F (w.alloc (.cells (xs.map (SL.val β)).toArray ty)) := by
  have hc : Agr n β (β.set n w.heap.size) := β.set_agr n _
  have hsame : ∀ k, k < w.heap.size → (w.alloc (.cells (xs.map (SL.val β)).toArray ty)).heap[k]? = w.heap[k]? := fun k hk => RowKit.Below.heap_alloc _ _ _ hk
  have hnew : (w.alloc (.cells (xs.map (SL.val β)).toArray ty)).heap[w.heap.size]? = some (.cells (xs.map (SL.val β)).toArray ty (0, 0)) := by
    show (w.heap.push _)[w.heap.size]? = _
    simp
  have hsz : (w.alloc (.cells (xs.map (SL.val β)).toArray ty)).heap.size = w.heap.size + 1 := by simp
  have hid : ∀ b ∈ H, (β.set n w.heap.size) b.id = β b.id := fun b hb => hc.at_ b.id (h.ltb b hb).1
  have hn : (β.set n w.heap.size) n = w.heap.size := β.set_same n _
  constructor
  · exact h.chg.trans (T := None_) ⟨rfl, rfl, rfl, by omega, fun k hk _ => hsame k hk⟩ (fun _ _ q => q) (fun _ _ q => q.elim)
  · exact ⟨Nat.le_succ_of_le h.fix.1, fun i hi => (hc.at_ i (Nat.lt_of_lt_of_le hi h.fix.1)).trans (h.fix.2 i hi)⟩
  · intro b hb
    rcases List.mem_cons.1 hb with rfl | hb
    · simp only [hn, SL.map_congr hc hx]; exact hnew
    · rw [SL.map_congr hc (h.ltb b hb).2, hid b hb, hsame _ (h.lt hb)]; exact h.blk b hb
  · intro b hb
    rcases List.mem_cons.1 hb with rfl | hb
    · simp only [hn]; exact .inr h.chg.size
    · rw [hid b hb]; exact h.mine b hb
  · refine List.pairwise_cons.2 ⟨fun b hb => ?_, ?_⟩
    · simp only [hn, hid b hb]; have := h.lt hb; omega
    · refine List.Pairwise.imp_of_mem (fun {b c} hb hc' hne => ?_) h.inj
      rw [hid b hb, hid c hc']; exact hne
  · intro b hb
    rcases List.mem_cons.1 hb with rfl | hb
    · exact ⟨Nat.lt_succ_self _, fun x hm => SL.lt_mono (Nat.le_succ _) (hx x hm)⟩
    · exact ⟨Nat.lt_succ_of_lt (h.ltb b hb).1, fun x hm => SL.lt_mono (Nat.le_succ _) ((h.ltb b hb).2 x hm)⟩
  · exact fun f hf => f.st _ _ (fun k hk => hsame k (h.flt f hf k hk)) (h.fact f hf)
  · intro f hf k hk; have := h.flt f hf k hk; omega
  · intro f hf b hb
    rcases List.mem_cons.1 hb with rfl | hb
    · simp only [hn]; intro q; have := h.flt f hf _ q; omega
    · rw [hid b hb]; exact h.sepb f hf b hb
  · exact h.fown
  · exact h.sepf
  · intro p hp
    have hp' : p ∈ β.pins := hp
    refine ⟨?_, (h.pin p hp').2⟩
    rw [hsame _ (h.pinLt hp')]
    exact (h.pin p hp').1
  · exact h.mrk
  · exact h.rnd

def cellsAt : List Bk → Nat → Option (List SL)
  | [], _ => none
  | b :: r, i => match Nat.beq b.id i with | true => some b.cells | false => cellsAt r i
def nth {α : Type} : List α → Nat → Option α
  | [], _ => none
  | x :: _, 0 => some x
  | _ :: r, n + 1 => nth r n
theorem nth_eq {α : Type} : ∀ (l : List α) (n : Nat), nth l n = l[n]?
  | [], _ => by simp [nth]
  | x :: r, 0 => by simp [nth]
  | x :: r, n + 1 => by simp [nth, nth_eq r n]
def takeAt {α : Type} : List α → Nat → Nat → Option (List α)
  | _, _, 0 => some []
  | l, o, k + 1 => match nth l o with | none => none | some x => match takeAt l (o + 1) k with | none => none | some r => some (x :: r)
def setCells : List Bk → Nat → (List SL → List SL) → List Bk
  | [], _, _ => []
  | b :: r, i, f => match Nat.beq b.id i with | true => ⟨b.id, b.ty, f b.cells⟩ :: r | false => b :: setCells r i f
def putAt {α : Type} : List α → Nat → α → List α
  | [], _, _ => []
  | _ :: r, 0, y => y :: r
  | x :: r, n + 1, y => x :: putAt r n y
def putAll {α : Type} : List α → Nat → List α → List α
  | l, _, [] => l
  | l, o, y :: ys => putAll (putAt l o y) (o + 1) ys
theorem putAt_eq {α : Type} : ∀ (l : List α) (n : Nat) (y : α), putAt l n y = l.set n y
  | [], _, _ => by simp [putAt]
  | x :: r, 0, y => by simp [putAt]
  | x :: r, n + 1, y => by simp [putAt, putAt_eq r n y]
theorem length_putAll {α : Type} : ∀ (ys l : List α) (o : Nat), (putAll l o ys).length = l.length
  | [], _, _ => rfl
  | y :: ys, l, o => by rw [putAll, length_putAll ys, putAt_eq, List.length_set]
theorem map_putAll {α γ : Type} (f : α → γ) : ∀ (ys l : List α) (o : Nat), (putAll l o ys).map f = putAll (l.map f) o (ys.map f)
  | [], _, _ => rfl
  | y :: ys, l, o => by rw [putAll, map_putAll f ys, putAt_eq, List.map_set, List.map_cons, putAll, putAt_eq]

theorem cellsAt_mem {H : List Bk} {i : Nat} {xs : List SL} (h : cellsAt H i = some xs) : ∃ b ∈ H, b.id = i ∧ b.cells = xs := by
  induction H with
  | nil => cases h
  | cons b r ih =>
    simp only [cellsAt] at h
    cases hb : Nat.beq b.id i with
    | true =>
      simp only [hb, Option.some.injEq] at h
      exact ⟨b, List.mem_cons_self, Nat.eq_of_beq_eq_true hb, h⟩
    | false =>
      simp only [hb] at h
      obtain ⟨c, hc, h1, h2⟩ := ih h
      exact ⟨c, List.mem_cons_of_mem _ hc, h1, h2⟩

theorem Sat.cell {cx : Cx} {β : Va} {n : Nat} {H : List Bk} {F : List Fact} {w : World} (h : Sat cx β n H F w) {i : Nat} {xs : List SL} (hc : cellsAt H i = some xs) (o : Nat) {x : SL} (hx : nth xs o = some x) :
    w.cell? ⟨β i, o, none⟩ = some (x.val β) := by
  obtain ⟨b, hb, rfl, rfl⟩ := cellsAt_mem hc
  rw [cell_of_row w _ o _ _ _ (h.blk b hb)]
  rw [nth_eq] at hx
  simp [hx]

theorem setCells_id (H : List Bk) (i : Nat) (f : List SL → List SL) : (setCells H i f).map (·.id) = H.map (·.id) := by
  induction H with
  | nil => rfl
  | cons b r ih =>
    simp only [setCells]
    cases hb : Nat.beq b.id i with
    | true => simp
    | false => simp [ih]

#print axioms Sat.new
end Go.Proofs.YthkjfepbmnabkaaDoor.Sx
