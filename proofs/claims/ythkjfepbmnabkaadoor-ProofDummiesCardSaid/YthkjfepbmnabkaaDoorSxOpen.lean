/- What came in, read by its type. -/
import Derived.Test.YthkjfepbmnabkaaDoorSxCon
import Derived.ChangeSlices
import Derived.WideShapes
namespace Go.Proofs.YthkjfepbmnabkaaDoor.Sx
open Go

def Opens (P : Program) (w : World) : Nat → TypeId → List Value → Prop
  | 0, _, _ => False
  | fuel + 1, t, cs => match P.underlying t with
    | some .bool => ∃ b, cs = [.bool b]
    | some (.int k) => ∃ n, cs = [.int k n] ∧ (Lit.int k n).wf = true
    | some .string => ∃ s, cs = [.string s] ∧ s.size ≤ maxLen
    | some (.slice e) => ∃ (A : Option Addr) (n c : Nat) (xs : List (List Value)), cs = [.slice A n c] ∧ n ≤ c ∧ c ≤ maxLen ∧ xs.length = n ∧ (A = none → n = 0 ∧ c = 0) ∧ (∀ x ∈ xs, x.length = P.cellsOf e) ∧ Rd (P.cellsOf e) A n xs.flatten w ∧ ∀ x ∈ xs, Opens P w fuel e x
    | some (.struct fs) => cs.length = P.cellsOf t ∧ ∀ f ∈ fs.toList, Opens P w fuel f.type ((cs.drop f.offset).take (P.cellsOf f.type))
    | _ => True

theorem mapM_some_all {α γ : Type} {f : α → Option γ} : ∀ {l : List α} {r : List γ}, l.mapM f = some r → ∀ x ∈ l, ∃ y, f x = some y
  | [], r, _, x, hx => by cases hx
  | a :: l, r, h, x, hx => by
    rw [List.mapM_cons] at h
    cases ha : f a with
    | none => rw [ha] at h; cases h
    | some y =>
      cases hl : l.mapM f with
      | none => rw [ha, hl] at h; cases h
      | some r' =>
        rcases List.mem_cons.1 hx with rfl | hx
        · exact ⟨y, ha⟩
        · exact mapM_some_all hl x hx

theorem flatten_const {k : Nat} : ∀ {xs : List (List Value)} (_ : ∀ x ∈ xs, x.length = k), xs.flatten.length = xs.length * k ∧ ∀ i j x u, xs[i]? = some x → x[j]? = some u → xs.flatten[i * k + j]? = some u
  | [], _ => ⟨by simp, fun i j x u h => by simp at h⟩
  | y :: r, hx => by
    obtain ⟨h1, h2⟩ := flatten_const (xs := r) (fun x h => hx x (List.mem_cons_of_mem _ h))
    have hy := hx y List.mem_cons_self
    refine ⟨by simp [h1, hy, Nat.succ_mul]; omega, fun i j x u h hu => ?_⟩
    have hj : j < x.length := (List.getElem?_eq_some_iff.1 hu).1
    cases i with
    | zero =>
      obtain rfl : y = x := by simpa using h
      rw [List.flatten_cons, Nat.zero_mul, Nat.zero_add, List.getElem?_append_left hj]
      exact hu
    | succ i =>
      have h' : r[i]? = some x := by simpa using h
      rw [List.flatten_cons, List.getElem?_append_right (by rw [hy, Nat.succ_mul]; omega), hy, show (i + 1) * k + j - k = i * k + j by rw [Nat.succ_mul]; omega]
      exact h2 i j x u h' hu

theorem opens_of {H : Type} {enc : TypeId × Value → H} {P : Program} {w : World} {base : Nat} {sp : Nat → Bool} {held : Bool} : ∀ (fuel : Nat) (t : TypeId) (cs : List Value) (x : DataW H × List MemPlace),
    DataW.trod enc P w base sp held fuel t cs = some x → Opens P w fuel t cs
  | 0, _, _, _, h => by cases h
  | fuel + 1, t, cs, x, h => by
    unfold Opens
    split
    · rename_i ht
      unfold DataW.trod at h
      rw [ht] at h
      split at h <;> simp_all
    · rename_i k ht
      unfold DataW.trod at h
      rw [ht] at h
      split at h <;> simp_all
    · rename_i ht
      unfold DataW.trod at h
      rw [ht] at h
      split at h <;> simp_all
    · rename_i e ht
      rcases DataW.trod_slice ht h with ⟨rfl, _⟩ | ⟨a, len, cap, elems, rest, m, hf, rfl, _, _, h1, h2, h3, hel, _, _⟩
      · exact ⟨none, 0, 0, [], rfl, Nat.le_refl _, Nat.zero_le _, rfl, (fun _ => ⟨rfl, rfl⟩), (fun _ q => by cases q), ⟨by simp, fun q => absurd q (Nat.lt_irrefl _)⟩, fun _ q => by cases q⟩
      · obtain rfl : fuel = m := by omega
        have each : ∀ i, i < len → ∃ cs, w.cells? base (a.add (i * P.cellsOf e)) (P.cellsOf e) = some cs ∧ Opens P w fuel e cs := by
          intro i hi
          have hq := hel i hi
          rw [List.getElem?_eq_getElem (by omega)] at hq
          obtain ⟨cs, hc, hd⟩ := Option.bind_eq_some_iff.1 hq
          exact ⟨cs, hc, opens_of fuel e cs _ hd⟩
        obtain ⟨xs, hxl, hx⟩ : ∃ xs : List (List Value), xs.length = len ∧ ∀ i, i < len → ∃ cs, xs[i]? = some cs ∧ w.cells? base (a.add (i * P.cellsOf e)) (P.cellsOf e) = some cs ∧ Opens P w fuel e cs := by
          revert each
          clear h hel h1 h2 h3
          intro each
          rename_i q1 q2
          clear q1 q2
          induction len with
          | zero => exact ⟨[], rfl, fun i hi => absurd hi (Nat.not_lt_zero _)⟩
          | succ len ih =>
            obtain ⟨xs, h1, h2⟩ := ih (fun i hi => each i (by omega))
            obtain ⟨cs, h3, h4⟩ := each len (by omega)
            refine ⟨xs ++ [cs], by simp [h1], fun i hi => ?_⟩
            rcases Nat.lt_or_ge i len with hlt | hge
            · obtain ⟨c, q1, q2⟩ := h2 i hlt
              exact ⟨c, by rw [List.getElem?_append_left (by omega)]; exact q1, q2⟩
            · obtain rfl : i = len := by omega
              exact ⟨cs, by rw [List.getElem?_append_right (by omega)]; simp [h1], h3, h4⟩
        have hlen : ∀ x ∈ xs, x.length = P.cellsOf e := by
          intro x hx'
          obtain ⟨i, hi⟩ := List.getElem?_of_mem hx'
          have hil := (List.getElem?_eq_some_iff.1 hi).1
          obtain ⟨c, q1, q2, _⟩ := hx i (by omega)
          rw [hi] at q1
          obtain rfl := Option.some.inj q1
          exact (World.cells?_some q2).2.1
        obtain ⟨f1, f2⟩ := flatten_const hlen
        refine ⟨some a, len, cap, xs, rfl, h1, h2, hxl, (fun q => by cases q), hlen, ⟨by rw [f1, hxl], fun _ => ⟨a, rfl, fun j u hu => ?_⟩⟩, fun x hx' => ?_⟩
        · have hj := (List.getElem?_eq_some_iff.1 hu).1
          rw [f1, hxl] at hj
          have hpos : 0 < P.cellsOf e := Nat.pos_of_ne_zero (fun q => by rw [q, Nat.mul_zero] at hj; exact Nat.not_lt_zero _ hj)
          have hdl : j / P.cellsOf e < len := Nat.div_lt_of_lt_mul (by rw [Nat.mul_comm]; exact hj)
          have hml : j % P.cellsOf e < P.cellsOf e := Nat.mod_lt _ hpos
          obtain ⟨c, q1, q2, _⟩ := hx _ hdl
          have hcl := (World.cells?_some q2).2.1
          have hcc := (World.cells?_some q2).2.2 _ hml
          have hjj : j / P.cellsOf e * P.cellsOf e + j % P.cellsOf e = j := by rw [Nat.mul_comm]; exact Nat.div_add_mod j _
          rw [add_add', hjj] at hcc
          have := f2 _ (j % P.cellsOf e) c _ q1 (List.getElem?_eq_getElem (by omega))
          rw [hjj, hu] at this
          rw [hcc, List.getElem?_eq_getElem (by omega), this]
        · obtain ⟨i, hi⟩ := List.getElem?_of_mem hx'
          have hil := (List.getElem?_eq_some_iff.1 hi).1
          obtain ⟨c, q1, _, q3⟩ := hx i (by omega)
          rw [hi] at q1
          obtain rfl := Option.some.inj q1
          exact q3
    · rename_i fs ht
      obtain ⟨xs, m, hf, _, hl, hxl, hx⟩ := DataW.trod_struct ht h
      obtain rfl : fuel = m := by omega
      refine ⟨hl, fun f hf => ?_⟩
      obtain ⟨i, hi⟩ := List.getElem?_of_mem hf
      have hil : i < fs.size := by have := (List.getElem?_eq_some_iff.1 hi).1; simpa using this
      have hq := hx i f (by simpa using hi)
      rw [List.getElem?_eq_getElem (by omega)] at hq
      exact opens_of fuel f.type _ _ hq
    · trivial

theorem flat_one {α : Type} (f : α → Value) : ∀ (l : List α), l.flatMap (fun b => [f b]) = l.map f
  | [] => rfl
  | b :: r => by rw [List.flatMap_cons, List.map_cons, flat_one f r]; rfl
/-- A list out of what its places hold. -/
theorem list_choose {α : Type} {f : α → List Value} {p : α → Prop} : ∀ {xs : List (List Value)}, (∀ x ∈ xs, ∃ a, x = f a ∧ p a) → ∃ as : List α, as.length = xs.length ∧ xs.flatten = as.flatMap f ∧ ∀ a ∈ as, p a
  | [], _ => ⟨[], rfl, rfl, fun _ h => by cases h⟩
  | x :: r, h => by
    obtain ⟨a, rfl, ha⟩ := h x List.mem_cons_self
    obtain ⟨as, h0, h1, h2⟩ := list_choose (xs := r) (fun x hx => h x (List.mem_cons_of_mem _ hx))
    refine ⟨a :: as, by simp [h0], by rw [List.flatten_cons, h1, List.flatMap_cons], fun b hb => ?_⟩
    rcases List.mem_cons.1 hb with rfl | hb
    · exact ha
    · exact h2 b hb

section
variable {P : Program} {w : World} {fuel : Nat} {t : TypeId} {cs : List Value}
theorem Opens.bool (h : Opens P w fuel t cs) (ht : P.underlying t = some .bool) : ∃ b, cs = [.bool b] := by
  cases fuel with
  | zero => exact h.elim
  | succ fuel => simp only [Opens, ht] at h; exact h
theorem Opens.int {k : IntKind} (h : Opens P w fuel t cs) (ht : P.underlying t = some (.int k)) : ∃ n, cs = [.int k n] ∧ k.min ≤ n ∧ n ≤ k.max := by
  cases fuel with
  | zero => exact h.elim
  | succ fuel =>
    simp only [Opens, ht] at h
    obtain ⟨n, h1, h2⟩ := h
    have h3 : k.min ≤ n ∧ n ≤ k.max := by simpa [Lit.wf] using h2
    exact ⟨n, h1, h3⟩
theorem Opens.u8 (h : Opens P w fuel t cs) (ht : P.underlying t = some (.int .u8)) : ∃ b : UInt8, cs = [byte b] := by
  obtain ⟨n, rfl, h1, h2⟩ := h.int ht
  refine ⟨UInt8.ofNat n.toNat, ?_⟩
  have h3 : 0 ≤ n := h1
  have h4 : n ≤ 255 := h2
  unfold byte
  rw [UInt8.toNat_ofNat']
  congr 2
  omega
theorem Opens.str (h : Opens P w fuel t cs) (ht : P.underlying t = some .string) : ∃ s, cs = [.string s] ∧ s.size ≤ maxLen := by
  cases fuel with
  | zero => exact h.elim
  | succ fuel => simp only [Opens, ht] at h; exact h
theorem Opens.slice {e : TypeId} (h : Opens P w fuel t cs) (ht : P.underlying t = some (.slice e)) : ∃ (A : Option Addr) (n c : Nat) (xs : List (List Value)) (m : Nat), cs = [.slice A n c] ∧ n ≤ c ∧ c ≤ maxLen ∧ xs.length = n ∧ (A = none → n = 0 ∧ c = 0) ∧ (∀ x ∈ xs, x.length = P.cellsOf e) ∧ Rd (P.cellsOf e) A n xs.flatten w ∧ ∀ x ∈ xs, Opens P w m e x := by
  cases fuel with
  | zero => exact h.elim
  | succ fuel =>
    simp only [Opens, ht] at h
    obtain ⟨A, n, c, xs, r⟩ := h
    exact ⟨A, n, c, xs, fuel, r⟩
theorem Opens.struct {fs : Array Field} (h : Opens P w fuel t cs) (ht : P.underlying t = some (.struct fs)) : ∃ m, cs.length = P.cellsOf t ∧ ∀ f ∈ fs.toList, Opens P w m f.type ((cs.drop f.offset).take (P.cellsOf f.type)) := by
  cases fuel with
  | zero => exact h.elim
  | succ fuel => simp only [Opens, ht] at h; exact ⟨fuel, h⟩
/-- A struct, by what is known of its type. -/
theorem Opens.structT {i : TI} (h : Opens P w fuel t cs) (ti : TiOk P t i) (hd : i.desc = .struct) : ∃ m, cs.length = P.cellsOf t ∧ ∀ (k off size : Nat) (ty : TypeId), i.fields[k]? = some (off, size) → i.ftys[k]? = some ty → Opens P w m ty ((cs.drop off).take (P.cellsOf ty)) := by
  obtain ⟨fs, h1, h2⟩ := ti.struct hd
  obtain ⟨m, h3, h4⟩ := h.struct h1
  refine ⟨m, h3, fun k off size ty hk hty => ?_⟩
  have e1 := ti.fields
  have e2 := ti.ftys
  rw [h2] at e1 e2
  rw [← e2, List.getElem?_map] at hty
  obtain ⟨f, hf, rfl⟩ := Option.map_eq_some_iff.1 hty
  have e3 := congrArg (fun l => l[k]?) e1
  simp only [List.getElem?_map, hf, hk, Option.map_some, Option.some.injEq, Prod.mk.injEq] at e3
  rw [← e3.1]
  exact h4 f (List.mem_of_getElem? hf)
/-- Bytes. -/
theorem Opens.bytes {e : TypeId} (h : Opens P w fuel t cs) (ht : P.underlying t = some (.slice e)) (he : P.underlying e = some (.int .u8)) (hc : P.cellsOf e = 1) : ∃ (A : Option Addr) (p : List UInt8) (c : Nat), cs = [.slice A p.length c] ∧ p.length ≤ c ∧ c ≤ maxLen ∧ Bs w A p := by
  obtain ⟨A, n, c, xs, m, rfl, h1, h2, rfl, _, _, hr, hx⟩ := h.slice ht
  obtain ⟨p, hpl, hp, _⟩ := list_choose (f := fun b => [byte b]) (p := fun _ => True) (xs := xs) (fun x hx' => by obtain ⟨b, rfl⟩ := (hx x hx').u8 he; exact ⟨b, rfl, trivial⟩)
  have hf : p.flatMap (fun b => [byte b]) = p.map byte := flat_one byte p
  rw [hc, hp, hf] at hr
  rw [← hpl] at hr h1 ⊢
  exact ⟨A, p, c, rfl, h1, h2, hr⟩
end
end Go.Proofs.YthkjfepbmnabkaaDoor.Sx
