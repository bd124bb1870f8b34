/- Regions that draw their order, within a round or not: an operation that only reads what is held may be taken first. -/
import Derived.Test.YthkjfepbmnabkaaDoorSx
import Derived.OrdersHeld
import Derived.OrdersIn
namespace Go.Proofs.YthkjfepbmnabkaaDoor.Sx
open Go

section
variable {F : Fence} {P : Program} {ops : Array Oper} {Q : Exit → Act → World → Prop} {S : World → Prop} {md : Region.Mode}

def noDefer (ops : Array Oper) : Bool := ops.all fun o => match o.op with | .defer _ => false | _ => true
theorem noDefer_spec (h : noDefer ops = true) {j : Nat} {o : Oper} (hj : ops[j]? = some o) : ∀ c, o.op ≠ .defer c := by
  intro c hc
  unfold noDefer at h
  rw [Array.all_eq_true] at h
  obtain ⟨hl, rfl⟩ := Array.getElem?_eq_some_iff.1 hj
  have := h j hl
  rw [hc] at this
  cases this

theorem heldOp (hF : ∀ f, F.fn f) {i : Nat} {o : Oper} {v : Value} {a : Act} (hi : ops[i]? = some o) (hd : ∀ c, o.op ≠ .defer c) (hy : YieldsIf P ops S o v a)
    {K : Act → World → Prop} {w : World} (hS : S w) (h : K (a.put o.dst v) w) : wpOpIn F 0 P ops Q i K a w := by
  unfold wpOpIn
  simp only [hi]
  rcases hy with ⟨hw, hv⟩ | ⟨hw, rfl⟩
  · rw [if_pos hw]
    unfold Oper.wpIn
    rw [Oper.semAt_eq _ _ _ hd, hv w hS]
    exact ⟨fun f _ => hF f, h⟩
  · rw [if_neg (by rw [hw]; decide)]
    exact ⟨fun f _ => hF f, h⟩

theorem heldPut (hF : ∀ f, F.fn f) {j : Nat} {oi oj : Oper} {v : Value} (hj : ops[j]? = some oj) (hdj : ∀ c, oj.op ≠ .defer c) (hap : oi.apart ops oj = true)
    (hsi : ∀ cs b, oi.op ≠ .select cs b) (hsj : ∀ cs b, oj.op ≠ .select cs b)
    (hQ : ∀ c a w, Q (.panic c) (a.put oi.dst v) w → Q (.panic c) a w) {K : Act → World → Prop} {a : Act} {w : World}
    (hy : YieldsIf P ops S oi v a) (h : wpOpIn F 0 P ops Q j K (a.put oi.dst v) w) :
    wpOpIn F 0 P ops Q j (fun a' w' => YieldsIf P ops S oi v a' ∧ K (a'.put oi.dst v) w') a w := by
  obtain ⟨h1, h2, h3⟩ := Oper.apart_spec hap
  have keep : ∀ u, YieldsIf P ops S oi v (a.put oj.dst u) := fun u =>
    hy.of_same (execOp_put oi hsi a oj.dst u h3) (wanted_put oi a oj.dst u h3)
  have fin : ∀ u w', K ((a.put oi.dst v).put oj.dst u) w' → YieldsIf P ops S oi v (a.put oj.dst u) ∧ K ((a.put oj.dst u).put oi.dst v) w' :=
    fun u w' hk => ⟨keep u, by rw [← Act.put_comm a v u h2]; exact hk⟩
  unfold wpOpIn at *
  simp only [hj] at *
  rw [wanted_put oj a oi.dst v h1] at h
  by_cases hw : Region.wanted oj (yielded ops a.tmps) = true
  · rw [if_pos hw] at h ⊢
    unfold Oper.wpIn at *
    refine ⟨fun f _ => hF f, ?_⟩
    have h := h.2
    rw [Oper.semAt_eq _ _ _ hdj] at h ⊢
    rw [execOp_put oj hsj a oi.dst v h1] at h
    generalize (execOp a.eval oj).run P w = r at *
    cases r with
    | ok x w' =>
      cases x <;> simp only [Oper.uponIn] at h ⊢
      case value u => exact fin u _ h
      case skip => exact fin _ _ h
      case defer d => 
        refine ⟨(hy.of_same rfl rfl : YieldsIf P ops S oi v { a with defers := d :: a.defers }).of_same (execOp_put oi hsi _ oj.dst undef h3) (wanted_put oi _ oj.dst undef h3), ?_⟩
        rw [← Act.put_comm _ v undef h2, ← Act.put_defers]
        exact h
      case enter f args =>
        refine ⟨h.1, CallsIn.mono h.2 fun e w'' he => ?_⟩
        cases e with
        | returned u => exact fin u _ he
        | panicked c => exact hQ _ _ _ he
        | outgrown => exact he
      case row row args => exact ⟨h.1, RowsIn.mono h.2 fun u w'' he => fin u _ he⟩
      case round l f tmps assign body =>
        refine ⟨h.1, RoundIn.mono h.2 fun e w'' he => ?_⟩
        cases e with
        | returned u => exact fin u _ he
        | panicked c => exact hQ _ _ _ he
        | outgrown => exact he
    | halt x w' =>
      cases x <;> simp only [Oper.uponIn] at h ⊢
      case panic u => exact hQ _ _ _ h
  · rw [if_neg hw] at h ⊢
    exact ⟨fun f _ => hF f, fin _ _ h.2⟩

/-- Whatever order comes; what is held holds behind each operation but those of L. -/
def anyH (F : Fence) (P : Program) (md : Region.Mode) (ops : Array Oper) (Q : Exit → Act → World → Prop) (S : World → Prop) (L : List Nat) : Nat → Array Bool → Act → World → Prop
  | 0, listed, a, w => Region.ready md ops listed = [] ∧ Q .normal a w
  | fuel + 1, listed, a, w =>
    (Region.ready md ops listed = [] → Q .normal a w) ∧
    ∀ i ∈ Region.ready md ops listed, wpOpIn F 0 P ops Q i (fun a' w' => (S w' ∨ i ∈ L) ∧ anyH F P md ops Q S L fuel (listed.setIfInBounds i true) a' w') a w
theorem anyH_any {L : List Nat} : ∀ (fuel : Nat) (listed : Array Bool) (a : Act) (w : World), anyH F P md ops Q S L fuel listed a w → wpAnyIn F 0 P md ops Q fuel listed a w
  | 0, _, _, _, h => h
  | fuel + 1, _, _, _, h => ⟨h.1, fun i hi => wpOpIn_mono (fun a' w' q => anyH_any fuel _ a' w' q.2) (h.2 i hi)⟩

/-- The operations of L stand behind i. -/
def lastB (md : Region.Mode) (ops : Array Oper) (L : List Nat) (i : Nat) : Bool := L.all fun k => match ops[k]? with | some o => o.after.any fun e => Region.binds md e && Nat.beq e.on i | none => true
theorem lastB_spec {L : List Nat} {i : Nat} (h : lastB md ops L i = true) {k : Nat} (hk : k ∈ L) {o : Oper} (ho : ops[k]? = some o) : ∃ e ∈ o.after, Region.binds md e = true ∧ e.on = i := by
  unfold lastB at h
  have h := List.all_eq_true.1 h k hk
  rw [ho] at h
  simp only at h
  rw [Array.any_eq_true'] at h
  obtain ⟨e, he, h⟩ := h
  simp only [Bool.and_eq_true] at h
  exact ⟨e, he, h.1, Nat.eq_of_beq_eq_true h.2⟩
theorem anyH_first {L : List Nat} (hF : ∀ f, F.fn f) (hnd : noDefer ops = true) {i : Nat} {oi : Oper} {v : Value} (hi : ops[i]? = some oi) (hsel : ∀ (j : Nat) (o : Oper) cs b, ops[j]? = some o → o.op ≠ .select cs b)
    (hQ : ∀ c a w, Q (.panic c) (a.put oi.dst v) w → Q (.panic c) a w) :
    ∀ (fuel : Nat) (listed : Array Bool) (a : Act) (w : World),
      lastB md ops L i = true → (∀ j oj, ops[j]? = some oj → j ≠ i → listed.getD j true = false → (∀ e ∈ oj.after, Region.binds md e = true → e.on ≠ i) → oi.apart ops oj = true) →
      i ∈ Region.ready md ops listed → YieldsIf P ops S oi v a → S w →
      anyH F P md ops Q S L fuel (listed.setIfInBounds i true) (a.put oi.dst v) w → anyH F P md ops Q S L (fuel + 1) listed a w
  | 0, listed, a, w, hL, _, hr, hy, hS, H => by
    refine ⟨fun h => (by rw [h] at hr; cases hr), fun j hj => ?_⟩
    by_cases hji : j = i
    · subst hji; exact heldOp hF hi (noDefer_spec hnd hi) hy hS ⟨.inl hS, H⟩
    · have := ready_mono hj hji
      rw [H.1] at this
      cases this
  | fuel + 1, listed, a, w, hL, hfree, hr, hy, hS, H => by
    refine ⟨fun h => (by rw [h] at hr; cases hr), fun j hj => ?_⟩
    by_cases hji : j = i
    · subst hji; exact heldOp hF hi (noDefer_spec hnd hi) hy hS ⟨.inl hS, H⟩
    · obtain ⟨hjun, oj, hoj, hall⟩ := mem_ready.1 hj
      have hir := (mem_ready.1 hr).1
      have hnot : ∀ e ∈ oj.after, Region.binds md e = true → e.on ≠ i := by
        intro e he hb heq
        have h1 := hall e he hb
        rw [heq] at h1
        rcases Nat.lt_or_ge i listed.size with h' | h'
        · simp [h'] at hir h1; rw [hir] at h1; cases h1
        · simp [Array.getElem?_eq_none h'] at h1
      refine wpOpIn_mono ?_ (heldPut hF hoj (noDefer_spec hnd hoj) (hfree j oj hoj hji hjun hnot) (fun cs b => hsel i oi cs b hi) (fun cs b => hsel j oj cs b hoj) hQ hy (H.2 j (ready_mono hj hji)))
      rintro a' w' ⟨hy', hS0, hrest⟩
      have hS' : S w' := hS0.resolve_right (fun q => by
        obtain ⟨e, he, hb, heq⟩ := lastB_spec hL q hoj
        exact hnot e he hb heq)
      refine ⟨.inl hS', anyH_first hF hnd hi hsel hQ fuel (listed.setIfInBounds j true) a' w' hL ?_ (ready_mono hr (Ne.symm hji)) hy' hS' (by rw [Array.setIfInBounds_comm _ _ hji]; exact hrest)⟩
      intro k ok hk hki hun hno
      refine hfree k ok hk hki ?_ hno
      by_cases hjk : j = k
      · subst hjk; exact hjun
      · rw [getD_set_ne true hjk] at hun; exact hun

theorem anyH_take {L : List Nat} (hF : ∀ f, F.fn f) (hnd : noDefer ops = true) {i : Nat} {oi : Oper} {v : Value} {fuel : Nat} {listed : Array Bool} {a : Act} {w : World} (hi : ops[i]? = some oi)
    (hs : Region.noSelect ops = true) (hf : Region.free md ops listed i = true) (hr : (Region.ready md ops listed).contains i = true) (hL : lastB md ops L i = true)
    (hQ : ∀ c a w, Q (.panic c) (a.put oi.dst v) w → Q (.panic c) a w) (hy : YieldsIf P ops S oi v a) (hS : S w)
    (h : anyH F P md ops Q S L fuel (listed.setIfInBounds i true) (a.put oi.dst v) w) : anyH F P md ops Q S L (fuel + 1) listed a w :=
  anyH_first hF hnd hi (Region.noSelect_spec hs) hQ fuel listed a w hL (Region.free_spec hi hf) (by simpa using hr) hy hS h
theorem anyH_all {L : List Nat} {rs : List Nat} {fuel : Nat} {listed : Array Bool} {a : Act} {w : World} (hr : Region.ready md ops listed = rs) (hne : rs ≠ [])
    (h : ∀ i ∈ rs, wpOpIn F 0 P ops Q i (fun a' w' => (S w' ∨ i ∈ L) ∧ anyH F P md ops Q S L fuel (listed.setIfInBounds i true) a' w') a w) : anyH F P md ops Q S L (fuel + 1) listed a w :=
  ⟨fun h0 => absurd (hr ▸ h0) hne, hr ▸ h⟩
theorem anyH_done {L : List Nat} {listed : Array Bool} {a : Act} {w : World} (hr : Region.ready md ops listed = []) (h : Q .normal a w) :
    ∀ fuel, anyH F P md ops Q S L fuel listed a w
  | 0 => ⟨hr, h⟩
  | _ + 1 => ⟨fun _ => h, by rw [hr]; simp⟩
theorem region_anyH {L : List Nat} {id : Nat} {a : Act} {w : World} (hm : P.follows .mixedOrders = true)
    (h : anyH F P .any ops Q S L ops.size (Array.replicate ops.size false) a w.drew) : (Code.region id ops true).wpIn F 0 P Q a w :=
  wpIn_region_any hm (anyH_any _ _ _ _ h)
end
end Go.Proofs.YthkjfepbmnabkaaDoor.Sx
