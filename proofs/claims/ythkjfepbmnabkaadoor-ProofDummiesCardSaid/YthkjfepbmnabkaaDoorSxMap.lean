/- Maps whose keys are texts: looked into, written, cut; plainly, and in the model. -/
import Derived.Test.YthkjfepbmnabkaaDoorSxHeld
import Derived.MapKept
namespace Go.Proofs.YthkjfepbmnabkaaDoor.Sx
open Go

/-! ### plainly -/
abbrev ML := List (ByteArray × Value)
def mlook : ML → ByteArray → Option Value
  | [], _ => none
  | (k, v) :: r, s => if k = s then some v else mlook r s
def mput : ML → ByteArray → Value → ML
  | [], s, v => [(s, v)]
  | (k, u) :: r, s, v => if k = s then (s, v) :: r else (k, u) :: mput r s v
def mdel : ML → ByteArray → ML
  | [], _ => []
  | (k, u) :: r, s => if k = s then r else (k, u) :: mdel r s

/-! ### in the model -/
abbrev ME := ByteArray × Value × Nat
def ME.ent (e : ME) : MapEntry := ⟨.string e.1, e.2.1, e.2.2⟩
def ME.cut (e : ME) : ByteArray × Value := (e.1, e.2.1)
structure MapOk (es : List ME) (k : Nat) (l : ML) : Prop where
  cut : es.map ME.cut = l
  inc : (es.map (·.2.2)).Pairwise (· < ·)
  lt : ∀ e ∈ es, e.2.2 < k
/-- A map's object, as a list of keys and values. -/
def mapP (b : Nat) (l : ML) (w : World) : Prop := ∃ (es : List ME) (k : Nat), w.heap[b]? = some (.map (es.map ME.ent).toArray k) ∧ MapOk es k l
def mapF (b : Nat) (l : ML) : Fact where
  own := true
  D := fun g => g = b
  p := mapP b l
  st := fun w w' hs ⟨es, k, h, q⟩ => ⟨es, k, by rw [hs b rfl]; exact h, q⟩

def fnd (s : ByteArray) : List ME → Nat → Option (Nat × Value)
  | [], _ => none
  | e :: r, i => if e.1 = s then some (i, e.2.1) else fnd s r (i + 1)
theorem findNow_fnd (s : ByteArray) : ∀ (es : List ME) (i : Nat), Instr.findNow .string (.string s) (es.map ME.ent) i = some (fnd s es i)
  | [], i => rfl
  | e :: r, i => by
    simp only [List.map_cons, Instr.findNow, fnd]
    have h1 : Instr.sameNow .string (.string s) (ME.ent e).key = some (decide (s = e.1)) := by
      show some (s == e.1) = _
      exact congrArg some (by rw [Bool.eq_iff_iff, MapKept.bytes_beq]; simp)
    rw [h1]
    by_cases h : e.1 = s
    · have h' : s = e.1 := h.symm
      simp only [decide_eq_true h', if_pos h]
      rfl
    · have h' : ¬ s = e.1 := fun q => h q.symm
      simp only [decide_eq_false h', if_neg h]
      exact findNow_fnd s r (i + 1)
theorem run_findKey {P : Program} {kt : TypeId} (hk : P.underlying kt = some .string) (s : ByteArray) (es : List ME) (w : World) : (Instr.findKey kt (.string s) (es.map ME.ent)).run P w = .ok (fnd s es 0) w := by
  exact MapKept.run_findKey hk (findNow_fnd s es 0)
theorem run_checkKey {P : Program} {kt : TypeId} (hk : P.underlying kt = some .string) (s : ByteArray) (b : Bool) (w : World) : (Instr.checkKey b 10000 kt (.string s)).run P w = .ok () w := by
  exact MapKept.run_checkKey (k := .string s) hk trivial b 9999
theorem fnd_look (s : ByteArray) : ∀ (es : List ME) (i : Nat), (fnd s es i).map (·.2) = mlook (es.map ME.cut) s
  | [], _ => rfl
  | e :: r, i => by
    simp only [fnd, List.map_cons, mlook, ME.cut]
    split
    · rfl
    · exact fnd_look s r (i + 1)
theorem fnd_none {s : ByteArray} : ∀ {es : List ME} {i : Nat}, fnd s es i = none → ∀ v b, (es ++ [(s, v, b)]).map ME.cut = mput (es.map ME.cut) s v
  | [], _, _, v, b => rfl
  | e :: r, i, h, v, b => by
    simp only [fnd] at h
    split at h
    · cases h
    · rename_i hne
      simp only [List.cons_append, List.map_cons, mput, ME.cut, if_neg hne]
      rw [← fnd_none h v b]
theorem fnd_some {s : ByteArray} : ∀ {es : List ME} {i : Nat} {j : Nat} {u : Value}, fnd s es i = some (j, u) → ∃ (a c : List ME) (t : Nat), es = a ++ (s, u, t) :: c ∧ j = i + a.length ∧
    (∀ v, (a ++ (s, v, t) :: c).map ME.cut = mput (es.map ME.cut) s v) ∧ (a ++ c).map ME.cut = mdel (es.map ME.cut) s
  | [], _, _, _, h => by cases h
  | e :: r, i, j, u, h => by
    simp only [fnd] at h
    split at h
    · rename_i he
      simp only [Option.some.injEq, Prod.mk.injEq] at h
      obtain ⟨rfl, rfl⟩ := h
      obtain ⟨k, v0, t⟩ := e
      simp only at he
      subst he
      exact ⟨[], r, t, rfl, rfl, fun v => by simp [mput, ME.cut], by simp [mdel, ME.cut]⟩
    · rename_i hne
      obtain ⟨a, c, t, rfl, rfl, h1, h2⟩ := fnd_some h
      refine ⟨e :: a, c, t, rfl, by simp; omega, fun v => ?_, ?_⟩
      · simp only [List.cons_append, List.map_cons, mput, ME.cut, if_neg hne]
        rw [← h1 v]
      · simp only [List.cons_append, List.map_cons, mdel, ME.cut, if_neg hne]
        rw [← h2]
theorem run_lookup {P : Program} {t kt et : TypeId} (ht : P.underlying t = some (.map kt et)) (hk : P.underlying kt = some .string) {w : World} {b : Nat} {l : ML} (h : mapP b l w) (s : ByteArray) (z : Value) (hz : (zeroValue et).run P w = .ok z w) (ok : Bool) :
    (Instr.lookup t (.map (some b)) (.string s) ok).run P w = .ok (match ok with | true => .tuple #[(mlook l s).getD z, .bool (mlook l s).isSome] | false => (mlook l s).getD z) w := by
  obtain ⟨es, k, hb, hm⟩ := h
  have hg : (getObj b).run P w = .ok (.map (es.map ME.ent).toArray k) w := MapKept.run_getObj_map hb
  have h1 := fnd_look s es 0
  rw [hm.cut] at h1
  simp only [Instr.lookup, Sem.run_bind, run_underlying ht, Result.andThen_ok, hg, run_checkKey hk, run_findKey hk, Sem.run_pure]
  cases hf : fnd s es 0 with
  | none =>
    rw [hf] at h1
    simp only [Option.map_none] at h1
    rw [← h1]
    cases ok <;> simp [hz]
  | some q =>
    obtain ⟨j, v⟩ := q
    rw [hf] at h1
    simp only [Option.map_some] at h1
    rw [← h1]
    cases ok <;> simp
theorem run_lookup_nil {P : Program} {t kt et : TypeId} (ht : P.underlying t = some (.map kt et)) (hk : P.underlying kt = some .string) {w : World} (s : ByteArray) (z : Value) (hz : (zeroValue et).run P w = .ok z w) (ok : Bool) :
    (Instr.lookup t (.map none) (.string s) ok).run P w = .ok (match ok with | true => .tuple #[z, .bool false] | false => z) w := by
  have h1 := run_findKey (P := P) hk s [] w
  simp only [List.map_nil] at h1
  have h2 : fnd s [] 0 = none := rfl
  simp only [Instr.lookup, Sem.run_bind, run_underlying ht, Result.andThen_ok, run_checkKey hk, Sem.run_pure, h1, h2, hz]
  cases ok <;> simp

theorem modify_mid {α : Type} (f : α → α) (x : α) (c : List α) : ∀ a : List α, (a ++ x :: c).modify a.length f = a ++ f x :: c
  | [] => by simp
  | y :: a => by simp [modify_mid f x c a]
theorem run_put {P : Program} {t kt et : TypeId} (ht : P.underlying t = some (.map kt et)) (hk : P.underlying kt = some .string) {w : World} {b : Nat} {l : ML} (h : mapP b l w) (s : ByteArray) (v : Value) :
    ∃ o, (Instr.mapUpdate t (.map (some b)) (.string s) v).run P w = .ok () (w.putObj b o) ∧ mapP b (mput l s v) (w.putObj b o) := by
  obtain ⟨es, k, hb, hm⟩ := h
  have hlt : b < w.heap.size := (Array.getElem?_eq_some_iff.1 hb).1
  have hg : (getObj b).run P w = .ok (.map (es.map ME.ent).toArray k) w := MapKept.run_getObj_map hb
  have hput : ∀ o, (w.putObj b o).heap[b]? = some o := fun o => World.putObj_heap_same hlt
  simp only [Instr.mapUpdate, Sem.run_bind, run_underlying ht, Result.andThen_ok, hg, run_checkKey hk, run_findKey hk, Sem.run_pure]
  cases hf : fnd s es 0 with
  | none =>
    refine ⟨.map ((es ++ [(s, v, k)]).map ME.ent).toArray (k + 1), ?_, es ++ [(s, v, k)], k + 1, hput _, by rw [fnd_none hf v k, hm.cut], ?_, ?_⟩
    · have := MapKept.run_setObj_map (P := P) (.map ((es ++ [(s, v, k)]).map ME.ent).toArray (k + 1)) hb
      simpa [ME.ent, World.putObj] using this
    · rw [List.map_append, List.pairwise_append]
      refine ⟨hm.inc, List.pairwise_singleton _ _, fun x hx y hy => ?_⟩
      obtain ⟨e, he, rfl⟩ := List.mem_map.1 hx
      simp only [List.map_cons, List.map_nil, List.mem_singleton] at hy
      subst hy
      exact hm.lt e he
    · intro e he
      rcases List.mem_append.1 he with he | he
      · exact Nat.lt_succ_of_lt (hm.lt e he)
      · obtain rfl := List.mem_singleton.1 he
        exact Nat.lt_succ_self _
  | some q =>
    obtain ⟨j, u⟩ := q
    obtain ⟨a, c, t0, rfl, hj, h1, _⟩ := fnd_some hf
    rw [Nat.zero_add] at hj
    subst hj
    refine ⟨.map ((a ++ (s, v, t0) :: c).map ME.ent).toArray k, ?_, a ++ (s, v, t0) :: c, k, hput _, by rw [h1 v, hm.cut], ?_, ?_⟩
    · have hkey : ((((a ++ (s, u, t0) :: c).map ME.ent).toArray)[a.length]?).map (·.key) = some (.string s) := by simp [ME.ent]
      have hstay : (Instr.keyThatStays (.string s) (.string s)).run P w = .ok (.string s) w := MapKept.run_keyThatStays (d := .string) (k := .string s) trivial
      have hmod : (((a ++ (s, u, t0) :: c).map ME.ent).toArray).modify a.length (fun e => { e with key := .string s, val := v }) = ((a ++ (s, v, t0) :: c).map ME.ent).toArray := by
        apply Array.ext'
        simp only [Array.toList_modify, List.map_append, List.map_cons]
        have := modify_mid (fun e : MapEntry => { e with key := .string s, val := v }) (ME.ent (s, u, t0)) (c.map ME.ent) (a.map ME.ent)
        rw [List.length_map] at this
        rw [this]
        rfl
      simp only [hkey, Option.getD_some, Sem.run_bind, hstay, Result.andThen_ok, hmod]
      exact MapKept.run_setObj_map _ hb
    · have := hm.inc
      simpa using this
    · intro e he
      have hlt := hm.lt
      rcases List.mem_append.1 he with he | he
      · exact hlt e (List.mem_append_left _ he)
      · rcases List.mem_cons.1 he with rfl | he
        · exact hlt (s, u, t0) (by simp)
        · exact hlt e (by simp [he])
theorem chg_put {w : World} {b : Nat} (o : Obj) : Chg (· = b) w (w.putObj b o) := ⟨rfl, rfl, rfl, by rw [World.putObj_size]; exact Nat.le_refl _, fun k _ hk => World.putObj_heap_other hk⟩
end Go.Proofs.YthkjfepbmnabkaaDoor.Sx
