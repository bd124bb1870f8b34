/- The executor's operations, each proved sound. -/
import Derived.Test.YthkjfepbmnabkaaDoorSxMap
import Derived.Laws.Bits
namespace Go.Proofs.YthkjfepbmnabkaaDoor.Sx
open Go

/-! ### what a type's row gives -/
section
variable {P : Program} {t : TypeId} {i : TI}
theorem TiOk.row (h : TiOk P t i) : ∃ x z, P.info? t = some x ∧ x.zero = some z ∧ z.cells.toList = i.zero ∧ x.size = i.size ∧ x.bytes = i.bytes := by
  obtain ⟨x, hx, he⟩ := Option.map_eq_some_iff.1 h.info
  simp only [Prod.mk.injEq] at he
  obtain ⟨z, hz, hzc⟩ := Option.map_eq_some_iff.1 he.1
  exact ⟨x, z, hx, hz, hzc, he.2.1, he.2.2⟩
theorem TiOk.run_size (h : TiOk P t i) (w : World) : (sizeOf t).run P w = .ok i.size w := by
  obtain ⟨x, z, hx, _, _, hs, _⟩ := h.row
  simp [sizeOf, typeInfo, hx, go_sem, hs]
theorem TiOk.run_bytes (h : TiOk P t i) (w : World) : ∃ x, (typeInfo t).run P w = .ok x w ∧ x.bytes = i.bytes ∧ x.size = i.size := by
  obtain ⟨x, z, hx, _, _, hs, hb⟩ := h.row
  exact ⟨x, by simp [typeInfo, hx, go_sem], hb, hs⟩
theorem TiOk.run_zero (h : TiOk P t i) (w : World) : ∃ z, (zeroValue t).run P w = .ok z w ∧ z.cells.toList = i.zero := by
  obtain ⟨x, z, hx, hz, hzc, _, _⟩ := h.row
  exact ⟨z, by simp [zeroValue, typeInfo, hx, hz, go_sem], hzc⟩
theorem TiOk.run_agg (h : TiOk P t i) (w : World) : (isAgg t).run P w = .ok i.agg w := by
  rw [h.agg]
  obtain ⟨d, h1, h2⟩ := Option.map_eq_some_iff.1 h.under
  simp only [isAgg, Sem.run_bind, run_underlying h1 w, Result.andThen_ok, ← h2]
  cases d <;> simp [aggD, shapeD, go_sem]
end

/-! ### values -/
def ofValue : Value → SV
  | .agg cs => .agg (cs.toList.map SL.v)
  | x => .c (.v x)
theorem ofValue_val (β : Va) (x : Value) : (ofValue x).val β = x := by
  cases x <;> simp [ofValue, SV.val, SL.val, Function.comp_def]
theorem ofValue_lt (n : Nat) (x : Value) : (ofValue x).lt n := by
  cases x <;> simp [ofValue, SV.lt, SL.lt]

def ev (env : Env) : Operand → Option SV
  | .tmp t => get env t
  | .const x => some (ofValue x)
  | .global g => some (.c (.v (.pointer (some ⟨g, 0, none⟩))))
  | .func f => some (.c (.v (.func (.func f) #[] #[])))

section
variable {cx : Cx} {β : Va} {n : Nat} {env : Env} {H : List Bk} {F : List Fact} {a : Act} {w : World}
theorem Inv.ev (h : Inv cx β n env H F a w) {x : Operand} {s : SV} (hx : ev env x = some s) : a.eval x = s.val β ∧ s.lt n := by
  cases x with
  | tmp t =>
    refine ⟨?_, h.lte t s hx⟩
    simp only [Act.eval, Array.getD_eq_getD_getElem?, h.ag t s hx, Option.getD_some]
  | const x =>
    simp only [Sx.ev, Option.some.injEq] at hx
    subst hx
    exact ⟨(ofValue_val β x).symm, ofValue_lt _ x⟩
  | global g =>
    simp only [Sx.ev, Option.some.injEq] at hx
    subst hx
    exact ⟨rfl, trivial⟩
  | func f =>
    simp only [Sx.ev, Option.some.injEq] at hx
    subst hx
    exact ⟨rfl, trivial⟩
end

/-- A bool that is known, or not yet. -/
def BIf (T F : Prop) (b : Bool) : Prop := match b with | true => T | false => F
theorem BIf.mk {b : Bool} {T F : Prop} (ht : b = true → T) (hf : b = false → F) : BIf T F b := by
  cases b
  · exact hf rfl
  · exact ht rfl
theorem BIf.dec {p : Prop} [Decidable p] {T F : Prop} (ht : p → T) (hf : ¬ p → F) : BIf T F (decide p) :=
  BIf.mk (fun h => ht (of_decide_eq_true h)) (fun h => hf (of_decide_eq_false h))
theorem BIf.not {b : Bool} {T F : Prop} (h : BIf F T b) : BIf T F (!b) := by cases b <;> exact h
theorem BIf.out {b : Bool} {T F : Prop} (h : BIf T F b) : (b = true → T) ∧ (b = false → F) := by
  cases b
  · exact ⟨fun h => by (cases h), fun _ => h⟩
  · exact ⟨fun _ => h, fun h => by (cases h)⟩

/-! ### putting a value into its temporary -/
def put (N n : Nat) (env : Env) (H : List Bk) (F : List Fact) (dst : Option Tmp) (s : SV) (K : KT) : Prop :=
  match dst with
  | none => K n env H F
  | some d => match Nat.blt d N with
    | true => K n ((d, s) :: env) H F
    | false => False

/-- What an operation leaves. -/
def After (cx : Cx) (K : KT) (a : Act) (w : World) : Prop := ∃ β n env H F, Inv cx β n env H F a w ∧ K n env H F

/-- The same, and what was numbered before is numbered so still. -/
def AfterE (cx : Cx) (β0 : Va) (n0 : Nat) (K : KT) (a : Act) (w : World) : Prop := ∃ β n env H F, Agr n0 β0 β ∧ n0 ≤ n ∧ Inv cx β n env H F a w ∧ K n env H F
theorem AfterE.any {cx : Cx} {β0 : Va} {n0 : Nat} {K : KT} {a : Act} {w : World} (h : AfterE cx β0 n0 K a w) : After cx K a w := by
  obtain ⟨β, n, env, H, F, _, _, h1, h2⟩ := h
  exact ⟨β, n, env, H, F, h1, h2⟩
theorem AfterE.ext {cx : Cx} {β0 β1 : Va} {n0 n1 : Nat} {K : KT} {a : Act} {w : World} (h : AfterE cx β1 n1 K a w) (hb : Agr n0 β0 β1) (hn : n0 ≤ n1) : AfterE cx β0 n0 K a w := by
  obtain ⟨β, n, env, H, F, h1, h2, h3, h4⟩ := h
  exact ⟨β, n, env, H, F, hb.trans h1 hn, Nat.le_trans hn h2, h3, h4⟩

theorem put_sound {cx : Cx} {β : Va} {n : Nat} {env : Env} {H : List Bk} {F : List Fact} {a : Act} {w : World} {dst : Option Tmp} {s : SV} {K : KT}
    (h : Inv cx β n env H F a w) (hs : s.lt n) (hp : put cx.N n env H F dst s K) : AfterE cx β n K (a.put dst (s.val β)) w := by
  cases dst with
  | none => exact ⟨β, n, env, H, F, Agr.refl _ _, Nat.le_refl _, h, hp⟩
  | some d =>
    simp only [put] at hp
    cases hb : Nat.blt d cx.N with
    | false => rw [hb] at hp; exact hp.elim
    | true =>
      rw [hb] at hp
      have hd : d < cx.N := by simpa [Nat.blt_eq] using hb
      refine ⟨β, n, _, _, _, Agr.refl _ _, Nat.le_refl _, ⟨?_, ?_, h.df, ?_, h.sat⟩, hp⟩
      · intro t s' ht
        simp only [Act.put]
        by_cases hdt : d = t
        · subst hdt
          rw [get_same] at ht
          obtain rfl := Option.some.inj ht
          rw [Array.getElem?_setIfInBounds]
          simp [h.size, hd]
        · rw [get_other _ _ hdt] at ht
          rw [Array.getElem?_setIfInBounds_ne hdt]
          exact h.ag t s' ht
      · simp [Act.put, h.size]
      · intro t s' ht
        by_cases hdt : d = t
        · subst hdt
          rw [get_same] at ht
          obtain rfl := Option.some.inj ht
          exact hs
        · rw [get_other _ _ hdt] at ht
          exact h.lte t s' ht

/-- The rule of an operation that yields a value. -/
theorem wp_val {cx : Cx} {o : Oper} {a : Act} {w w' : World} {v : Value} {K : Act → World → Prop} {Q : Exit → Act → World → Prop}
    (h : (execOp a.eval o).run cx.P w = .ok (.value v) w') (hd : ∀ c, o.op ≠ .defer c) (hk : K (a.put o.dst v) w') : o.wpIn cx.fence 0 cx.P a w K Q := by
  unfold Oper.wpIn
  rw [Oper.semAt_eq _ _ _ hd, h]
  exact ⟨fun f _ => cx.fence_fn f, hk⟩
theorem wp_skip' {cx : Cx} {o : Oper} {a : Act} {w w' : World} {K : Act → World → Prop} {Q : Exit → Act → World → Prop}
    (h : (execOp a.eval o).run cx.P w = .ok .skip w') (hd : ∀ c, o.op ≠ .defer c) (hk : K (a.put o.dst undef) w') : o.wpIn cx.fence 0 cx.P a w K Q := by
  unfold Oper.wpIn
  rw [Oper.semAt_eq _ _ _ hd, h]
  exact ⟨fun f _ => cx.fence_fn f, hk⟩
theorem notDefer {o : Oper} {x : Op} (h : o.op = x) (hx : ∀ c, x ≠ .defer c) : ∀ c, o.op ≠ .defer c := by rw [h]; exact hx

/-! ### ints, strings, comparisons -/
def ikEq (x y : IntKind) : Bool := match x, y with
  | .i8, .i8 | .i16, .i16 | .i32, .i32 | .i64, .i64 | .u8, .u8 | .u16, .u16 | .u32, .u32 | .u64, .u64 => true
  | _, _ => false
theorem ikEq_eq {x y : IntKind} (h : ikEq x y = true) : x = y := by cases x <;> cases y <;> first | rfl | cases h

def bl (b : Bool) : SV := .c (.v (.bool b))
def intwp (op : BinOp) (k : IntKind) (x : Int) (y : Int) (kk : SV → Prop) : Prop :=
  match op with
  | .add => ∃ r, k.wrap (x + y) = r ∧ kk (.c (.v (.int k r)))
  | .sub => ∃ r, k.wrap (x - y) = r ∧ kk (.c (.v (.int k r)))
  | .mul => ∃ r, k.wrap (x * y) = r ∧ kk (.c (.v (.int k r)))
  | .quo => y ≠ 0 ∧ ∃ r, k.wrap (x.tdiv y) = r ∧ kk (.c (.v (.int k r)))
  | .rem => y ≠ 0 ∧ ∃ r, x.tmod y = r ∧ kk (.c (.v (.int k r)))
  | .and | .or | .xor | .andNot => ∃ r, bits op k x y = r ∧ kk (.c (.v (.int k r)))
  | .eql => kk (bl (decide (x = y)))
  | .neq => kk (bl (!decide (x = y)))
  | .lss => kk (bl (decide (x < y)))
  | .leq => kk (bl (decide (x ≤ y)))
  | .gtr => kk (bl (decide (y < x)))
  | .geq => kk (bl (decide (y ≤ x)))
  | .shl | .shr => False
def shwp (op : BinOp) (k : IntKind) (x : Int) (y : Int) (kk : SV → Prop) : Prop :=
  match op with
  | .shl => 0 ≤ y ∧ ∃ r, k.wrap (x * 2 ^ (min y.toNat k.bits)) = r ∧ kk (.c (.v (.int k r)))
  | .shr => 0 ≤ y ∧ ∃ r, x.fdiv (2 ^ (min y.toNat k.bits)) = r ∧ kk (.c (.v (.int k r)))
  | _ => False
def strwp (op : BinOp) (x y : ByteArray) (kk : SV → Prop) : Prop :=
  match op with
  | .add => x.size + y.size ≤ maxLen ∧ kk (.c (.v (.string (x ++ y))))
  | .eql => kk (bl (decide (x = y)))
  | .neq => kk (bl (!decide (x = y)))
  | .lss => kk (bl (Op.bytesLess x.toList y.toList))
  | .leq => kk (bl (Op.bytesLess x.toList y.toList || decide (x = y)))
  | .gtr => kk (bl (!(Op.bytesLess x.toList y.toList || decide (x = y))))
  | .geq => kk (bl (!Op.bytesLess x.toList y.toList))
  | _ => False

theorem byteArray_beq (x y : ByteArray) : (x.toList == y.toList) = decide (x = y) := by
  by_cases h : x = y
  · subst h; simp
  · simp only [h, decide_false]
    rw [beq_eq_false_iff_ne]
    intro q
    rw [ByteArray.toList_eq, ByteArray.toList_eq] at q
    exact h (by cases x; cases y; simp only [Array.toList_inj] at q; subst q; rfl)

/-- A comparison with nil. -/
def nilwp (op : BinOp) (b : Bool) (kk : SV → Prop) : Prop :=
  match op with
  | .eql => kk (bl b)
  | .neq => kk (bl (!b))
  | _ => False
def binwp (d : TD) (op : BinOp) (s u : SV) (kk : SV → Prop) : Prop :=
  match s, u with
  | .c (.v (.int k x)), .c (.v (.int l y)) =>
    match op with
    | .shl => shwp .shl k x y kk
    | .shr => shwp .shr k x y kk
    | op => match ikEq k l with | true => intwp op k x y kk | false => False
  | .c (.v (.string x)), .c (.v (.string y)) => strwp op x y kk
  | .c (.p _ _), .c (.v (.pointer none)) => match d with | .pointer _ => nilwp op false kk | _ => False
  | .c (.v (.pointer p)), .c (.v (.pointer none)) => match d with | .pointer _ => nilwp op p.isNone kk | _ => False
  | .c (.v (.slice p _ _)), .c (.v (.slice none _ _)) => match d with | .slice _ => nilwp op p.isNone kk | _ => False
  | .c (.v (.map p)), .c (.v (.map none)) => match d with | .map _ _ => nilwp op p.isNone kk | _ => False
  | .c (.v (.bool x)), .c (.v (.bool y)) => match d with | .bool => nilwp op (x == y) kk | _ => False
  | _, _ => False
def unwp (op : UnOp) (s : SV) (kk : SV → Prop) : Prop :=
  match op, s with
  | .not, .c (.v (.bool b)) => kk (bl (!b))
  | .neg, .c (.v (.int k x)) => ∃ r, k.wrap (0 - x) = r ∧ kk (.c (.v (.int k r)))
  | .xor, .c (.v (.int k x)) => ∃ r, bits .xor k (if k.signed then -1 else k.max) x = r ∧ kk (.c (.v (.int k r)))
  | _, _ => False

/-- A slice that reads as a list of cells. -/
def Rd (size : Nat) (A : Option Addr) (n : Nat) (xs : List Value) (w : World) : Prop :=
  xs.length = n * size ∧ (0 < n → ∃ ad, A = some ad ∧ ∀ j u, xs[j]? = some u → w.cell? (ad.add j) = some u)
def byte (x : UInt8) : Value := .int .u8 (x.toNat : Int)

def slen (s : SV) (kk : SV → Prop) (d : TD) : Prop :=
  match s, d with
  | .c (.v (.slice _ n _)), .slice _ => kk (.c (.v (.int .i64 n)))
  | .c (.v (.string x)), .string => kk (.c (.v (.int .i64 x.size)))
  | _, _ => False
def scap (s : SV) (kk : SV → Prop) (d : TD) : Prop :=
  match s, d with
  | .c (.v (.slice _ _ c)), .slice _ => kk (.c (.v (.int .i64 c)))
  | _, _ => False
def optInt (env : Env) : Option Operand → Option (Option Int)
  | none => some none
  | some x => match ev env x with | some (.c (.v (.int _ i))) => some (some i) | _ => none
def isNat (i : Option Int) (d l : Nat) : Prop := match i with | none => l = d | some i => i = (l : Int)
def cutA (A : Option Addr) (m l size : Nat) : Option Addr := if m = l then A else A.map (·.add (l * size))
def slwp (cx : Cx) (env : Env) (t : TypeId) (s : SV) (lo hi mx : Option Operand) (kk : SV → Prop) : Prop :=
  match lk cx.tt t, optInt env lo, optInt env hi, optInt env mx with
  | some i, some lo, some hi, some mx =>
    match i.desc, s with
    | .slice e, .c (.v (.slice A n c)) => match lk cx.tt e with
      | some ie => ∃ (m h l p q : Nat) (A' : Option Addr), isNat mx c m ∧ isNat hi n h ∧ isNat lo 0 l ∧ m ≤ c ∧ h ≤ m ∧ l ≤ h ∧ h - l = p ∧ m - l = q ∧ cutA A m l ie.size = A' ∧ kk (.c (.v (.slice A' p q)))
      | none => False
    | .pointer arr, .c (.v (.pointer (some ad))) => match lk cx.tt arr with
      | some ia => match ia.desc with
        | .array k e => match lk cx.tt e with
          | some ie => ∃ (m h l p q : Nat) (A' : Option Addr), isNat mx k m ∧ isNat hi k h ∧ isNat lo 0 l ∧ m ≤ k ∧ h ≤ m ∧ l ≤ h ∧ h - l = p ∧ m - l = q ∧ cutA (some ad) m l ie.size = A' ∧ kk (.c (.v (.slice A' p q)))
          | none => False
        | _ => False
      | none => False
    | .string, .c (.v (.string x)) => match mx with
      | none => ∃ h l : Nat, isNat hi x.size h ∧ isNat lo 0 l ∧ h ≤ x.size ∧ l ≤ h ∧ kk (.c (.v (.string (x.extract l h))))
      | some _ => False
    | _, _ => False
  | _, _, _, _ => False
def nonzero : Nat → Bool | 0 => false | _ + 1 => true
def fawp (cx : Cx) (t : TypeId) (s : SV) (f : Nat) (kk : SV → Prop) : Prop :=
  match lk cx.tt t with
  | some i => match i.desc with
    | .struct => match nth i.fields f with
      | some (off, size) => match nonzero size with
        | true => match s with
          | .c (.p id o) => kk (.c (.p id (o + off)))
          | .c (.v (.pointer (some a))) => kk (.c (.v (.pointer (some (a.add off)))))
          | _ => False
        | false => False
      | none => False
    | _ => False
  | none => False
def ixwp (cx : Cx) (t : TypeId) (s u : SV) (kk : SV → Prop) : Prop :=
  match lk cx.tt t with
  | some i => match i.desc, s, u with
    | .slice e, .c (.v (.slice A n _)), .c (.v (.int _ x)) => match lk cx.tt e with
      | some ie => ∃ (ad : Addr) (j : Nat), A = some ad ∧ x = (j : Int) ∧ j < n ∧ kk (.c (.v (.pointer (some (ad.add (j * ie.size))))))
      | none => False
    | .array n e, .c (.p id o), .c (.v (.int _ x)) => match lk cx.tt e with
      | some ie => ∃ j : Nat, x = (j : Int) ∧ j < n ∧ kk (.c (.p id (o + j * ie.size)))
      | none => False
    | .array n e, .c (.v (.pointer (some ad))), .c (.v (.int _ x)) => match lk cx.tt e with
      | some ie => ∃ j : Nat, x = (j : Int) ∧ j < n ∧ kk (.c (.v (.pointer (some (ad.add (j * ie.size))))))
      | none => False
    | _, _, _ => False
  | none => False
def ivwp (cx : Cx) (t : TypeId) (s u : SV) (kk : SV → Prop) : Prop :=
  match lk cx.tt t with
  | some i => match i.desc, s, u with
    | .string, .c (.v (.string x)), .c (.v (.int _ y)) => ∃ (j : Nat) (b : UInt8), y = (j : Int) ∧ x.data.toList[j]? = some b ∧ kk (.c (.v (byte b)))
    | .array n e, .agg xs, .c (.v (.int _ y)) => match lk cx.tt e with
      | some ie => match ie.agg with
        | false => ∃ (j : Nat) (z : SL), y = (j : Int) ∧ j < n ∧ xs[j * ie.size]? = some z ∧ kk (.c z)
        | true => False
      | none => False
    | _, _, _ => False
  | none => False
def exwp (s : SV) (ix : Nat) (kk : SV → Prop) : Prop :=
  match s with
  | .c (.v (.tuple vs)) => match nth vs.toList ix with | some x => kk (ofValue x) | none => False
  | _ => False
def fvwp (cx : Cx) (t : TypeId) (s : SV) (f : Nat) (kk : SV → Prop) : Prop :=
  match lk cx.tt t with
  | some i => match i.desc, s, nth i.fields f with
    | .struct, .agg xs, some (off, size) => match nth i.ftys f with
      | some g => match lk cx.tt g with
        | some ig => match ig.agg with
          | false => match nth xs off with | some z => kk (.c z) | none => False
          | true => match takeAt xs off size with | some zs => kk (.agg zs) | none => False
        | none => False
      | none => False
    | _, _, _ => False
  | none => False
def flat : SV → Option (List SL)
  | .c (.p id o) => some [.p id o]
  | .c (.v x) => match x with | .agg _ | .tuple _ => none | x => some [.v x]
  | .agg xs => some xs
  | .fn f [] [] => some [.v (.func f #[] #[])]
  | .fn _ _ _ => none
def fillwp (env : Env) (fields : List (Nat × Nat)) : List SL → List (Nat × Operand) → (List SL → Prop) → Prop
  | cs, [], kk => kk cs
  | cs, (i, x) :: r, kk => match nth fields i, ev env x with
    | some (off, size), some s => match flat s with
      | some ys => match Nat.beq ys.length size, Nat.ble (off + ys.length) cs.length with
        | true, true => fillwp env fields (putAll cs off ys) r kk
        | _, _ => False
      | none => False
    | _, _ => False
def places (size : Nat) : Nat → Nat → List (Nat × Nat)
  | _, 0 => []
  | i, k + 1 => (i * size, size) :: places size (i + 1) k
def buwp (cx : Cx) (env : Env) (t : TypeId) (parts : Array (Nat × Operand)) (kk : SV → Prop) : Prop :=
  match lk cx.tt t with
  | some i => match i.desc with
    | .struct => fillwp env i.fields (i.zero.map SL.v) parts.toList fun cs => kk (.agg cs)
    | .array m e => match lk cx.tt e with
      | some ie => fillwp env (places ie.size 0 m) (i.zero.map SL.v) parts.toList fun cs => kk (.agg cs)
      | none => False
    | _ => False
  | none => False
def cvwp (cx : Cx) (n : Nat) (H : List Bk) (F : List Fact) (src dst : TypeId) (s : SV) (kk : SV → Prop) : Prop :=
  match lk cx.tt src, lk cx.tt dst with
  | some i, some j => match i.desc, j.desc, s with
    | .int _, .int k, .c (.v (.int _ x)) => ∃ r, k.wrap x = r ∧ kk (.c (.v (.int k r)))
    | .string, .string, .c (.v (.string x)) => kk (.c (.v (.string x)))
    | .slice e, .string, .c (.v (.slice A m _)) => match lk cx.tt e with
      | some ie => match ie.desc with
        | .int .u8 => ∃ l : List UInt8, (∀ β w, Sat cx β n H F w → Rd 1 A m (l.map byte) w) ∧ kk (.c (.v (.string ⟨l.toArray⟩)))
        | _ => False
      | none => False
    | _, _, _ => False
  | _, _ => False
def ldwp (cx : Cx) (n : Nat) (H : List Bk) (F : List Fact) (t : TypeId) (s : SV) (kk : SV → Prop) : Prop :=
  match lk cx.tt t with
  | some i => match i.agg, s with
    | false, .c (.p id o) => match cellsAt H id with
      | some cs => match nth cs o with | some x => kk (.c x) | none => False
      | none => False
    | true, .c (.p id o) => match cellsAt H id with
      | some cs => match takeAt cs o i.size with | some xs => kk (.agg xs) | none => False
      | none => False
    | false, .c (.v (.pointer (some a))) => ∃ x, (∀ β w, Sat cx β n H F w → w.cell? a = some x) ∧ kk (.c (.v x))
    | true, .c (.v (.pointer (some a))) => ∃ xs : List Value, xs.length = i.size ∧ (∀ β w, Sat cx β n H F w → ∀ j u, xs[j]? = some u → w.cell? (a.add j) = some u) ∧ kk (.agg (xs.map SL.v))
    | _, _ => False
  | none => False
def mmwp (mx : Bool) (env : Env) (args : List Operand) (kk : SV → Prop) : Prop :=
  match args with
  | [x, y] => match ev env x, ev env y with
    | some (.c (.v (.int k a))), some (.c (.v (.int _ b))) => ∃ r, (match mx with | true => max a b | false => min a b) = r ∧ kk (.c (.v (.int k r)))
    | _, _ => False
  | _ => False
def bi1 (cx : Cx) (env : Env) (c : Call) (f : SV → (SV → Prop) → TD → Prop) (kk : SV → Prop) : Prop :=
  match c.args.toList, c.argTypes.toList with
  | x :: _, t :: _ => match ev env x, lk cx.tt t with
    | some s, some i => f s kk i.desc
    | _, _ => False
  | _, _ => False
/-- The length of what may be a map. -/
def lenwp (cx : Cx) (n : Nat) (env : Env) (H : List Bk) (F : List Fact) (c : Call) (kk : SV → Prop) : Prop :=
  match c.args.toList, c.argTypes.toList with
  | x :: _, t :: _ => match ev env x, lk cx.tt t with
    | some s, some i => match s, i.desc with
      | .c (.v (.map m)), .map _ _ => (match m with
        | none => kk (.c (.v (.int .i64 0)))
        | some b => ∃ l : ML, (∀ β w, Sat cx β n H F w → mapP b l w) ∧ kk (.c (.v (.int .i64 l.length))))
      | s, d => slen s kk d
    | _, _ => False
  | _, _ => False
def lkres (ok : Bool) (r : Option Value) (z : Value) : SV := match ok with
  | true => .c (.v (.tuple #[r.getD z, .bool r.isSome]))
  | false => ofValue (r.getD z)
/-- A look into a map. -/
def lkwp (cx : Cx) (n : Nat) (H : List Bk) (F : List Fact) (t : TypeId) (s u : SV) (ok : Bool) (kk : SV → Prop) : Prop :=
  match lk cx.tt t with
  | some i => match i.desc, s, u with
    | .map kt et, .c (.v (.map m)), .c (.v (.string k)) => match lk cx.tt kt with
      | some ik => match ik.desc with
        | .string => ∃ z, (∀ w, (zeroValue et).run cx.P w = .ok z w) ∧ (match m with
          | none => kk (lkres ok none z)
          | some b => ∃ (l : ML) (r : Option Value), (∀ β w, Sat cx β n H F w → mapP b l w) ∧ mlook l k = r ∧ kk (lkres ok r z))
        | _ => False
      | none => False
    | _, _, _ => False
  | none => False
def capsOf (env : Env) : List Operand → Option (List SL)
  | [] => some []
  | x :: r => match ev env x, capsOf env r with
    | some (.c y), some l => some (y :: l)
    | _, _ => none

/-- An operation that leaves the world alone: what it yields. -/
def rowp (cx : Cx) (n : Nat) (env : Env) (H : List Bk) (F : List Fact) (op : Op) (kk : SV → Prop) : Prop :=
  match op with
  | .move x | .assign x => match ev env x with | some s => kk s | none => False
  | .pick c x y => match ev env c, ev env x, ev env y with
    | some (.c (.v (.bool b))), some s, some u => (match b with | true => kk s | false => kk u)
    | _, _, _ => False
  | .nilCheck x => match ev env x with
    | some (.c (.p id o)) => kk (.c (.p id o))
    | some (.c (.v (.pointer (some a)))) => kk (.c (.v (.pointer (some a))))
    | _ => False
  | .binOp op t x y _ => match lk cx.tt t, ev env x, ev env y with | some i, some s, some u => binwp i.desc op s u kk | _, _, _ => False
  | .unOp op _ x => match ev env x with | some s => unwp op s kk | none => False
  | .convert src dst x => match ev env x with | some s => cvwp cx n H F src dst s kk | none => False
  | .load t x => match ev env x with | some s => ldwp cx n H F t s kk | none => False
  | .slice t x lo hi mx => match ev env x with | some s => slwp cx env t s lo hi mx kk | none => False
  | .fieldAddr t x f => match ev env x with | some s => fawp cx t s f kk | none => False
  | .field t x f => match ev env x with | some s => fvwp cx t s f kk | none => False
  | .indexAddr t x y => match ev env x, ev env y with | some s, some u => ixwp cx t s u kk | _, _ => False
  | .index t x y => match ev env x, ev env y with | some s, some u => ivwp cx t s u kk | _, _ => False
  | .extract x i => match ev env x with | some s => exwp s i kk | none => False
  | .lookup t x y ok => match ev env x, ev env y with | some s, some u => lkwp cx n H F t s u ok kk | _, _ => False
  | .build t parts => buwp cx env t parts kk
  | .makeFunc f first caps => match capsOf env first.toList, capsOf env caps.toList with | some a, some b => kk (.fn f a b) | _, _ => False
  | .call c => match c.callee with
    | .builtin .len => lenwp cx n env H F c kk
    | .builtin .cap => bi1 cx env c scap kk
    | .builtin .min => mmwp false env c.args.toList kk
    | .builtin .max => mmwp true env c.args.toList kk
    | _ => False
  | _ => False
end Go.Proofs.YthkjfepbmnabkaaDoor.Sx
