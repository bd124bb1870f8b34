/- Local arrays whose cells are a list that is not told cell by cell. -/
import Derived.Test.YthkjfepbmnabkaaDoorSxPlus
namespace Go.Proofs.YthkjfepbmnabkaaDoor.Sx
open Go

section
variable {cx : Cx} {n : Nat} {env : Env} {H : List Bk} {F : List Fact}

theorem rowp_ld {t : TypeId} {x : Operand} {kk : SV → Prop} {i : TI} {id o : Nat} {cs : List SL} {s : SL} (hn : cs[o]? = some s) (hk : kk (.c s)) (hi : lk cx.tt t = some i := by rfl) (hag : i.agg = false := by rfl) (hx : ev env x = some (.c (.p id o)) := by rfl) (hc : cellsAt H id = some cs := by rfl) :
    rowp cx n env H F (.load t x) kk := by
  show (match ev env x with | some s => ldwp cx n H F t s kk | none => False)
  rw [hx]
  show ldwp cx n H F t (.c (.p id o)) kk
  unfold ldwp
  rw [hi]
  simp only [hag, hc, nth_eq, hn]
  exact hk

theorem takeAt_from {α : Type} : ∀ (k o : Nat) (l : List α), o + k ≤ l.length → takeAt l o k = some ((l.drop o).take k)
  | 0, o, l, _ => by simp [takeAt]
  | k + 1, o, l, h => by
    have ho : o < l.length := by omega
    rw [takeAt, nth_eq, List.getElem?_eq_getElem ho]
    simp only [takeAt_from k (o + 1) l (by omega)]
    rw [List.drop_eq_getElem_cons ho, List.take_succ_cons]
theorem takeAt_all {α : Type} {l : List α} {k : Nat} (h : l.length = k) : takeAt l 0 k = some l := by
  rw [takeAt_from k 0 l (by omega), List.drop_zero, ← h, List.take_length]
theorem rowp_ldA {t : TypeId} {x : Operand} {kk : SV → Prop} {i : TI} {id : Nat} {cs : List SL} (hn : cs.length = i.size) (hk : kk (.agg cs)) (hi : lk cx.tt t = some i := by rfl) (hag : i.agg = true := by rfl) (hx : ev env x = some (.c (.p id 0)) := by rfl) (hc : cellsAt H id = some cs := by rfl) :
    rowp cx n env H F (.load t x) kk := by
  show (match ev env x with | some s => ldwp cx n H F t s kk | none => False)
  rw [hx]
  show ldwp cx n H F t (.c (.p id 0)) kk
  unfold ldwp
  rw [hi]
  simp only [hag, hc, takeAt_all hn]
  exact hk

theorem stwp_one {t : TypeId} {x y : Operand} {K : KT} {i : TI} {id o : Nat} {cs : List SL} {u : SV} {s : SL} {H' : List Bk} (hn : o < cs.length) (hk : K n env H' F) (hi : lk cx.tt t = some i := by rfl) (hx : ev env x = some (.c (.p id o)) := by rfl) (hy : ev env y = some u := by rfl) (hf : flat u = some [s] := by rfl) (hz : Nat.beq 1 i.size = true := by rfl) (h1 : s.one = true := by rfl)
    (hc : cellsAt H id = some cs := by rfl) (hH : setCells H id (fun l => l.set o s) = H' := by rfl) :
    stwp cx n env H F none t x y K := by
  unfold stwp
  rw [hi, hx, hy]
  simp only [hf]
  have e1 : Nat.beq [s].length i.size = true := hz
  have e2 : allOne [s] = true := by simp [allOne, h1]
  have e3 : Nat.ble (o + [s].length) cs.length = true := by rw [Nat.ble_eq]; simp; omega
  rw [e1, e2]
  simp only [hc, e3]
  have e4 : (fun l : List SL => putAll l o [s]) = fun l => l.set o s := by funext l; rw [putAll, putAll, putAt_eq]
  rw [e4, hH]
  exact hk
theorem putAll_all {α : Type} : ∀ (ys l : List α) (o : Nat), o + ys.length ≤ l.length → putAll l o ys = l.take o ++ ys ++ l.drop (o + ys.length)
  | [], l, o, h => by simp [putAll]
  | y :: ys, l, o, h => by
    simp only [List.length_cons] at h
    rw [putAll, putAll_all ys _ _ (by rw [putAt_eq, List.length_set]; omega), putAt_eq]
    rw [List.take_set, List.drop_set_of_lt (by omega)]
    rw [List.take_succ_eq_append_getElem (by omega), List.set_append_right _ _ (by simp; omega)]
    have e1 : o - (List.take o l).length = 0 := by simp; omega
    rw [e1, List.set_cons_zero, List.length_cons, show o + 1 + ys.length = o + (ys.length + 1) by omega]
    simp
theorem putAll_full {α : Type} {ys l : List α} (h : ys.length = l.length) : putAll l 0 ys = ys := by
  rw [putAll_all _ _ _ (by omega), Nat.zero_add, h, List.drop_length]; simp
theorem stwp_all {t : TypeId} {x y : Operand} {K : KT} {i : TI} {id : Nat} {cs ys : List SL} {H' : List Bk} (hz : ys.length = i.size) (h1 : allOne ys = true) (hn : cs.length = i.size) (hk : K n env H' F) (hi : lk cx.tt t = some i := by rfl) (hx : ev env x = some (.c (.p id 0)) := by rfl) (hy : ev env y = some (.agg ys) := by rfl)
    (hc : cellsAt H id = some cs := by rfl) (hH : setCells H id (fun _ => ys) = H' := by rfl) :
    stwp cx n env H F none t x y K := by
  unfold stwp
  rw [hi, hx, hy]
  simp only [flat]
  have e1 : Nat.beq ys.length i.size = true := by rw [hz]; exact Nat.beq_refl _
  have e3 : Nat.ble (0 + ys.length) cs.length = true := by rw [Nat.ble_eq]; omega
  rw [e1, h1]
  simp only [hc, e3]
  have e4 : setCells H id (fun l : List SL => putAll l 0 ys) = H' := by
    rw [← hH]
    clear hH hk
    induction H with
    | nil => rfl
    | cons b r ih =>
      simp only [cellsAt] at hc
      simp only [setCells]
      cases hb : Nat.beq b.id id with
      | true =>
        rw [hb] at hc
        obtain rfl := Option.some.inj hc
        simp only [hb]
        rw [putAll_all _ _ _ (by omega)]
        simp [List.drop_eq_nil_of_le (show b.cells.length ≤ ys.length by omega)]
      | false =>
        rw [hb] at hc
        simp only [hb]
        rw [ih hc]
  rw [e4]
  exact hk
theorem allOne_of {xs : List SL} (h : ∀ x ∈ xs, x.one = true) : allOne xs = true := by
  induction xs with
  | nil => rfl
  | cons x r ih =>
    simp only [allOne]
    rw [h x List.mem_cons_self]
    exact ih (fun y hy => h y (List.mem_cons_of_mem _ hy))
theorem m_some {α : Type} {o : Option α} {s : α} {kk : α → Prop} : o = some s → kk s → match o with | some x => kk x | none => False := fun h hk => by subst h; exact hk
theorem m_true {b : Bool} {X : Prop} : b = true → X → match b with | true => X | false => False := fun h hk => by subst h; exact hk
/-- A return of a whole local block. -/
theorem ret_cell {t ty : Nat} {R : Value → World → Prop} {i : TI} {id : Nat} {cs : List SL} (hn : cs.length = i.size)
    (hk : ∀ β w, Sat cx β n H F w → R (.agg (cs.map (SL.val β)).toArray) w) (hx : get env t = some (.c (.p id 0)) := by rfl) (hi : lk cx.tt ty = some i := by rfl) (hag : i.agg = true := by rfl) (hc : cellsAt H id = some cs := by rfl) : RetWP cx [.cell t ty] R n env H F := by
  unfold RetWP
  have : resOf cx env H [.cell t ty] = some [.agg cs] := by
    simp only [resOf]
    rw [hx, hi]
    simp only [hc, hag, takeAt_all hn]
  rw [this]
  exact hk
end
end Go.Proofs.YthkjfepbmnabkaaDoor.Sx
