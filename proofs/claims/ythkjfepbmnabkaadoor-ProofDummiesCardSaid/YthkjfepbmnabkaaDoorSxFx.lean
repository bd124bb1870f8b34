/- The executor's operations that change the world, each proved sound. -/
import Derived.Test.YthkjfepbmnabkaaDoorSxRo3
import Derived.Maps.AppendAt
import Derived.Lib.ConvBytes
namespace Go.Proofs.YthkjfepbmnabkaaDoor.Sx
open Go

section
variable {cx : Cx} {β : Va} {n : Nat} {env : Env} {H : List Bk} {F : List Fact} {a : Act} {w w' : World}

theorem Inv.mem (h : Inv cx β n env H F a w) {H' : List Bk} {F' : List Fact} {w' : World} (hs : Sat cx β n H' F' w') : Inv cx β n env H' F' a w' :=
  ⟨h.ag, h.size, h.df, h.lte, hs⟩

theorem Sat.frame (h : Sat cx β n H F w) {S : Nat → Prop} (hc : Chg S w w') (hb : ∀ b ∈ H, ¬ S (β b.id)) (hf : ∀ f ∈ F, ∀ k, f.D k → ¬ S k) (hS : ∀ k, k < w.heap.size → S k → cx.S k ∨ cx.W0.heap.size ≤ k) (hpn : ∀ p ∈ β.pins, ¬ S p.1) : Sat cx β n H F w' := by
  refine ⟨?_, h.fix, fun b hm => ?_, h.mine, h.inj, h.ltb, fun f hm => ?_, fun f hm k hk => Nat.lt_of_lt_of_le (h.flt f hm k hk) hc.size, h.sepb, h.fown, h.sepf, fun p hp => ⟨?_, (h.pin p hp).2⟩, h.mrk, h.rnd⟩
  · refine ⟨hc.os.trans h.chg.os, hc.tape.trans h.chg.tape, hc.output.trans h.chg.output, Nat.le_trans h.chg.size hc.size, fun k hk hn => ?_⟩
    rw [hc.same k (Nat.lt_of_lt_of_le hk h.chg.size) (fun q => ?_)]
    · exact h.chg.same k hk hn
    · rcases hS k (Nat.lt_of_lt_of_le hk h.chg.size) q with q | q
      · exact hn q
      · omega
  · rw [hc.same _ (h.lt hm) (hb b hm)]; exact h.blk b hm
  · exact f.st _ _ (fun k hk => hc.same k (h.flt f hm k hk) (hf f hm k hk)) (h.fact f hm)
  · rw [hc.same _ (h.pinLt hp) (hpn p hp)]; exact (h.pin p hp).1

theorem Sat.same (h : Sat cx β n H F w) (hc : Chg None_ w w') : Sat cx β n H F w' :=
  h.frame hc (fun _ _ q => q) (fun _ _ _ _ q => q) (fun _ _ q => q.elim) (fun _ _ q => q)

/-- One fact more, on new memory. -/
theorem Sat.add (h : Sat cx β n H F w) (hc : Chg None_ w w') (f : Fact) (hp : f.p w') (hD : ∀ k, f.D k → w.heap.size ≤ k ∧ k < w'.heap.size) : Sat cx β n H (f :: F) w' := by
  have h' := h.same hc
  refine ⟨h'.chg, h'.fix, h'.blk, h'.mine, h'.inj, h'.ltb, ?_, ?_, ?_, ?_, ?_, fun p hpp => ⟨(h'.pin p hpp).1, (h'.pin p hpp).2.1, fun g hg => ?_⟩, h'.mrk, h'.rnd⟩
  · intro g hg
    rcases List.mem_cons.1 hg with rfl | hg
    · exact hp
    · exact h'.fact g hg
  · intro g hg
    rcases List.mem_cons.1 hg with rfl | hg
    · exact fun k hk => (hD k hk).2
    · exact h'.flt g hg
  · intro g hg b hb
    rcases List.mem_cons.1 hg with rfl | hg
    · intro q; have := (hD _ q).1; have := h.lt hb; omega
    · exact h'.sepb g hg b hb
  · intro g hg
    rcases List.mem_cons.1 hg with rfl | hg
    · intro _ k hk; exact .inr (Nat.le_trans h.chg.size (hD k hk).1)
    · exact h'.fown g hg
  · refine List.pairwise_cons.2 ⟨fun g hg _ k hk q => ?_, h'.sepf⟩
    have := h.flt g hg k q
    have := (hD k hk).1
    omega
  · rcases List.mem_cons.1 hg with rfl | hg
    · intro q; have := (hD _ q).1; have := h.pinLt hpp; omega
    · exact (h'.pin p hpp).2.2 g hg

theorem mem_putAt {α : Type} {l : List α} {j : Nat} {y x : α} (h : x ∈ putAt l j y) : x = y ∨ x ∈ l := by
  rw [putAt_eq] at h
  exact (List.mem_or_eq_of_mem_set h).symm

/-- Facts of an owned fact's neighbours. -/
theorem Sat.apart (h : Sat cx β n H F w) {i j : Nat} {f g : Fact} (hi : F[i]? = some f) (hj : F[j]? = some g) (hne : i ≠ j) (ho : f.own = true ∨ g.own = true) : ∀ k, f.D k → ¬ g.D k := by
  have hp := List.pairwise_iff_getElem.1 h.sepf
  obtain ⟨hil, rfl⟩ := List.getElem?_eq_some_iff.1 hi
  obtain ⟨hjl, rfl⟩ := List.getElem?_eq_some_iff.1 hj
  rcases Nat.lt_or_gt_of_ne hne with hlt | hgt
  · exact hp i j hil hjl hlt ho
  · intro k hk hq
    exact hp j i hjl hil hgt ho.symm k hq hk

/-- An owned fact is replaced. -/
theorem Sat.upd (h : Sat cx β n H F w) {j : Nat} {f f' : Fact} (hj : nth F j = some f) (hown : f.own = true) (hc : Chg f.D w w') (hp : f'.p w') (hD : ∀ k, f'.D k → f.D k ∨ (w.heap.size ≤ k ∧ k < w'.heap.size)) :
    Sat cx β n H (putAt F j f') w' := by
  rw [nth_eq] at hj
  have hjl : j < F.length := (List.getElem?_eq_some_iff.1 hj).1
  have hfm : f ∈ F := List.mem_of_getElem? hj
  have other : ∀ g ∈ putAt F j f', g = f' ∨ ∃ i, F[i]? = some g ∧ i ≠ j := by
    intro g hg
    rw [putAt_eq] at hg
    obtain ⟨i, hi⟩ := List.getElem?_of_mem hg
    rw [List.getElem?_set] at hi
    split at hi
    · rename_i he
      subst he
      exact .inl (Option.some.inj hi).symm
    · rename_i he
      exact .inr ⟨i, hi, fun q => he q.symm⟩
  have htop : f'.D = f'.D := rfl
  refine ⟨?_, h.fix, fun b hm => ?_, h.mine, h.inj, h.ltb, fun g hg => ?_, fun g hg k hk => ?_, fun g hg b hb => ?_, fun g hg ho k hk => ?_, ?_, fun p hpp => ⟨?_, (h.pin p hpp).2.1, fun g hg => ?_⟩, h.mrk, h.rnd⟩
  · refine ⟨hc.os.trans h.chg.os, hc.tape.trans h.chg.tape, hc.output.trans h.chg.output, Nat.le_trans h.chg.size hc.size, fun k hk hn => ?_⟩
    rw [hc.same k (Nat.lt_of_lt_of_le hk h.chg.size) (fun q => ?_)]
    · exact h.chg.same k hk hn
    · rcases h.fown f hfm hown k q with q | q
      · exact hn q
      · omega
  · rw [hc.same _ (h.lt hm) (h.sepb f hfm b hm)]; exact h.blk b hm
  · rcases other g hg with rfl | ⟨i, hi, hne⟩
    · exact hp
    · exact g.st _ _ (fun k hk => hc.same k (h.flt g (List.mem_of_getElem? hi) k hk) (h.apart hi hj hne (.inr hown) k hk)) (h.fact g (List.mem_of_getElem? hi))
  · rcases other g hg with rfl | ⟨i, hi, hne⟩
    · rcases hD k hk with q | q
      · exact Nat.lt_of_lt_of_le (h.flt f hfm k q) hc.size
      · exact q.2
    · exact Nat.lt_of_lt_of_le (h.flt g (List.mem_of_getElem? hi) k hk) hc.size
  · rcases other g hg with rfl | ⟨i, hi, hne⟩
    · intro q
      rcases hD _ q with q | q
      · exact h.sepb f hfm b hb q
      · have := h.lt hb; omega
    · exact h.sepb g (List.mem_of_getElem? hi) b hb
  · rcases other g hg with rfl | ⟨i, hi, hne⟩
    · rcases hD k hk with q | q
      · exact h.fown f hfm hown k q
      · exact .inr (Nat.le_trans h.chg.size q.1)
    · exact h.fown g (List.mem_of_getElem? hi) ho k hk
  · have new_old : ∀ (i : Nat) (g : Fact), F[i]? = some g → i ≠ j → ∀ k, f'.D k → ¬ g.D k := by
      intro i g hi hne k hk hq
      rcases hD k hk with q | q
      · exact h.apart hj hi (Ne.symm hne) (.inl hown) k q hq
      · have := h.flt g (List.mem_of_getElem? hi) k hq; omega
    rw [putAt_eq, List.pairwise_iff_getElem]
    intro p q hp' hq' hlt ho k
    rw [List.length_set] at hp' hq'
    rw [List.getElem_set, List.getElem_set]
    rw [List.getElem_set, List.getElem_set] at ho
    by_cases hpj : j = p
    · subst hpj
      have hne : ¬ j = q := by omega
      rw [if_pos rfl, if_neg hne]
      exact new_old q _ (List.getElem?_eq_getElem hq') (Ne.symm hne) k
    · rw [if_neg hpj]
      rw [if_neg hpj] at ho
      by_cases hqj : j = q
      · subst hqj
        rw [if_pos rfl]
        intro h1 h2
        exact new_old p _ (List.getElem?_eq_getElem hp') (Ne.symm hpj) k h2 h1
      · rw [if_neg hqj]
        rw [if_neg hqj] at ho
        exact List.pairwise_iff_getElem.1 h.sepf p q hp' hq' hlt ho k
  · rw [hc.same _ (h.pinLt hpp) ((h.pin p hpp).2.2 f hfm)]; exact (h.pin p hpp).1
  · rcases other g hg with rfl | ⟨i, hi, hne⟩
    · intro q
      rcases hD _ q with q | q
      · exact (h.pin p hpp).2.2 f hfm q
      · have := h.pinLt hpp; omega
    · exact (h.pin p hpp).2.2 g (List.mem_of_getElem? hi)

/-- A new local block: the frame with it. -/
theorem Inv.new (h : Inv cx β n env H F a w) (ty : TypeId) (xs : List SL) (hx : ∀ x ∈ xs, x.lt n) :
    ∃ β' : Va, β' n = w.heap.size ∧ Agr n β β' ∧ Inv cx β' (n + 1) env (⟨n, ty, xs⟩ :: H) F a (w.alloc (.cells (xs.map (SL.val β)).toArray ty)) := by
  refine ⟨β.set n w.heap.size, β.set_same _ _, β.set_agr _ _, ⟨?_, h.size, h.df, fun t s ht => SV.lt_mono (Nat.le_succ _) (h.lte t s ht), h.sat.new ty xs hx⟩⟩
  intro t s ht
  rw [SV.val_congr (β := β) (β.set_agr _ _) (h.lte t s ht)]
  exact h.ag t s ht

/-! ### alloc, box -/
def alwp (cx : Cx) (n : Nat) (env : Env) (H : List Bk) (F : List Fact) (dst : Option Tmp) (t : TypeId) (K : KT) : Prop :=
  match lk cx.tt t with
  | some i => put cx.N (n + 1) env (⟨n, t, i.zero.map SL.v⟩ :: H) F dst (.c (.p n 0)) K
  | none => False
def bxwp (cx : Cx) (n : Nat) (env : Env) (H : List Bk) (F : List Fact) (dst : Option Tmp) (t : TypeId) (x : Operand) (K : KT) : Prop :=
  match ev env x with
  | some s => match flat s with
    | some xs => put cx.N (n + 1) env (⟨n, t, xs⟩ :: H) F dst (.c (.p n 0)) K
    | none => False
  | none => False

theorem alwp_sound (g : Good cx) (h : Inv cx β n env H F a w) {o : Oper} {t : TypeId} (ho : o.op = .alloc t) {K : KT} (hp : alwp cx n env H F o.dst t K) {K' : Act → World → Prop} (hk : ∀ a w, AfterE cx β n K a w → K' a w) {Q : Exit → Act → World → Prop} : o.wpIn cx.fence 0 cx.P a w K' Q := by
  unfold alwp at hp
  split at hp
  · rename_i i hi
    obtain ⟨z, hz, hzc⟩ := (g.ti hi).run_zero w
    obtain ⟨β', hβ, hext, hi'⟩ := h.new t (i.zero.map SL.v) (fun x hx => by obtain ⟨z, _, rfl⟩ := List.mem_map.1 hx; trivial)
    have hcs : z.cells = ((i.zero.map SL.v).map (SL.val β)).toArray := by
      apply Array.ext'
      rw [hzc]
      simp [Function.comp_def, SL.val]
    refine wp_val (v := (SV.c (.p n 0)).val β') (w' := w.alloc (.cells ((i.zero.map SL.v).map (SL.val β)).toArray t)) ?_ (notDefer ho (fun _ q => by cases q)) (hk _ _ ((put_sound (s := .c (.p n 0)) hi' (Nat.lt_succ_self n) hp).ext hext (Nat.le_succ n)))
    have hal : (Instr.alloc t true (.tuple #[])).run cx.P w = .ok (.pointer (some ⟨w.heap.size, 0, none⟩)) (w.alloc (.cells z.cells t)) := by
      simp [Instr.alloc, hz, newVar, newRow]
    simp only [execOp, ho, Sem.run_bind, hal, Result.andThen_ok, Sem.run_pure, SV.val, SL.val, hβ, ← hcs]
  · exact hp.elim
theorem bxwp_sound (h : Inv cx β n env H F a w) {o : Oper} {t : TypeId} {x : Operand} (ho : o.op = .box t x) {K : KT} (hp : bxwp cx n env H F o.dst t x K) {K' : Act → World → Prop} (hk : ∀ a w, AfterE cx β n K a w → K' a w) {Q : Exit → Act → World → Prop} : o.wpIn cx.fence 0 cx.P a w K' Q := by
  unfold bxwp at hp
  split at hp
  · rename_i s he
    obtain ⟨h1, h2⟩ := h.ev he
    split at hp
    · rename_i xs hx
      obtain ⟨β', hβ, hext, hi'⟩ := h.new t xs (flat_lt hx h2)
      have hcs : (s.val β).cells = (xs.map (SL.val β)).toArray := by
        apply Array.ext'
        rw [flat_cells hx]
      refine wp_val (v := (SV.c (.p n 0)).val β') (w' := w.alloc (.cells (xs.map (SL.val β)).toArray t)) ?_ (notDefer ho (fun _ q => by cases q)) (hk _ _ ((put_sound (s := .c (.p n 0)) hi' (Nat.lt_succ_self n) hp).ext hext (Nat.le_succ n)))
      have hal : (Instr.box t (s.val β)).run cx.P w = .ok (.pointer (some ⟨w.heap.size, 0, none⟩)) (w.alloc (.cells (s.val β).cells t)) := by
        simp [Instr.box, newVar, newRow]
      have e : (execOp a.eval o).run cx.P w = .ok (.value (.pointer (some ⟨w.heap.size, 0, none⟩))) (w.alloc (.cells (xs.map (SL.val β)).toArray t)) := by
        simp only [execOp, ho, h1, Sem.run_bind, hal, Result.andThen_ok, Sem.run_pure, hcs]
      rw [e]
      simp only [SV.val, SL.val, hβ]
    · exact hp.elim
  · exact hp.elim

/-! ### store -/
def SL.one : SL → Bool
  | .p _ _ => true
  | .v x => match x with | .agg _ | .tuple _ => false | _ => true
theorem SL.one_cell {x : SL} (h : x.one = true) (β : Va) : (x.val β).oneCell' = true := by
  cases x with
  | p id o => rfl
  | v x => cases x <;> first | rfl | cases h
def allOne : List SL → Bool
  | [] => true
  | x :: r => match x.one with | true => allOne r | false => false
theorem allOne_mem {xs : List SL} (h : allOne xs = true) : ∀ x ∈ xs, x.one = true := by
  induction xs with
  | nil => intro x hx; cases hx
  | cons y r ih =>
    simp only [allOne] at h
    cases hy : y.one with
    | false => rw [hy] at h; cases h
    | true =>
      rw [hy] at h
      intro x hx
      rcases List.mem_cons.1 hx with rfl | hx
      · exact hy
      · exact ih h x hx

theorem run_storeCells {P : Program} (b : Nat) (ty : TypeId) : ∀ (vs : List Value) (o i : Nat) (w : World) (cs : List Value), w.heap[b]? = some (.cells cs.toArray ty (0, 0)) → (∀ v ∈ vs, v.oneCell' = true) → o + i + vs.length ≤ cs.length →
    ∃ w', (storeCells ⟨b, o, none⟩ vs i).run P w = .ok () w' ∧ w'.heap[b]? = some (.cells (putAll cs (o + i) vs).toArray ty (0, 0)) ∧ Chg (· = b) w w' ∧ w'.heap.size = w.heap.size
  | [], o, i, w, cs, hb, _, _ => ⟨w, by simp [storeCells], by simpa [putAll] using hb, Chg.refl _ _, rfl⟩
  | v :: vs, o, i, w, cs, hb, h1, hl => by
    simp only [List.length_cons] at hl
    have hc : w.cell? ⟨b, o + i, none⟩ = some (cs[o + i]'(by omega)) := by
      rw [cell_of_row w b (o + i) _ _ _ hb]
      simp
    have hf : w.frozen? ⟨b, o + i, none⟩ = false := by simp [World.frozen?, hb]
    have hs : (store ((⟨b, o, none⟩ : Addr).add i) v).run P w = .ok () (w.setCell ⟨b, o + i, none⟩ v) := by
      rw [add_none, run_store P w _ v _ (h1 v List.mem_cons_self), hc]
      simp [hf]
    have hb' : (w.setCell ⟨b, o + i, none⟩ v).heap[b]? = some (.cells (cs.set (o + i) v).toArray ty (0, 0)) := by
      simp [World.setCell, Array.getElem?_modify, hb]
    obtain ⟨w', h2, h3, h4, h5⟩ := run_storeCells (P := P) b ty vs o (i + 1) (w.setCell ⟨b, o + i, none⟩ v) (cs.set (o + i) v) hb' (fun x hx => h1 x (List.mem_cons_of_mem _ hx)) (by rw [List.length_set]; omega)
    refine ⟨w', ?_, ?_, ?_, ?_⟩
    · simp only [storeCells, Sem.run_bind, hs, Result.andThen_ok, h2]
    · rw [h3, putAll, putAt_eq, Nat.add_assoc]
    · have hc1 : Chg (· = b) w (w.setCell ⟨b, o + i, none⟩ v) := ⟨rfl, rfl, rfl, by simp [World.setCell], fun k _ hk => RowKit.Below.heap_setCell _ _ _ _ hk⟩
      exact Chg.trans (S := (· = b)) (T := (· = b)) (U := (· = b)) hc1 h4 (fun _ _ q => q) (fun _ _ q => q)
    · rw [h5]; simp [World.setCell]

theorem mem_setCells {f : List SL → List SL} {H : List Bk} {i : Nat} {b : Bk} (hn : H.Pairwise (fun b c => b.id ≠ c.id)) (h : b ∈ setCells H i f) : (b ∈ H ∧ b.id ≠ i) ∨ ∃ c ∈ H, c.id = i ∧ b = ⟨c.id, c.ty, f c.cells⟩ := by
  induction H with
  | nil => cases h
  | cons c r ih =>
    simp only [setCells] at h
    obtain ⟨hc, hr⟩ := List.pairwise_cons.1 hn
    cases hb : Nat.beq c.id i with
    | true =>
      have he := Nat.eq_of_beq_eq_true hb
      rw [hb] at h
      rcases List.mem_cons.1 h with rfl | h
      · exact .inr ⟨c, List.mem_cons_self, he, rfl⟩
      · exact .inl ⟨List.mem_cons_of_mem _ h, fun q => hc b h (by rw [q, he])⟩
    | false =>
      have hne : c.id ≠ i := fun q => by subst q; rw [Nat.beq_refl] at hb; cases hb
      rw [hb] at h
      rcases List.mem_cons.1 h with rfl | h
      · exact .inl ⟨List.mem_cons_self, hne⟩
      · rcases ih hr h with ⟨h1, h2⟩ | ⟨d, h1, h2, h3⟩
        · exact .inl ⟨List.mem_cons_of_mem _ h1, h2⟩
        · exact .inr ⟨d, List.mem_cons_of_mem _ h1, h2, h3⟩

theorem setCells_inj {f : List SL → List SL} (R : Nat → Nat → Prop) : ∀ {H : List Bk} {i : Nat}, H.Pairwise (fun b c => R b.id c.id) → (setCells H i f).Pairwise (fun b c => R b.id c.id)
  | [], _, _ => List.Pairwise.nil
  | c :: r, i, h => by
    obtain ⟨h1, h2⟩ := List.pairwise_cons.1 h
    simp only [setCells]
    cases hb : Nat.beq c.id i with
    | true => exact List.pairwise_cons.2 ⟨fun x hx => h1 x hx, h2⟩
    | false =>
      refine List.pairwise_cons.2 ⟨fun x hx => ?_, setCells_inj R h2⟩
      have : x.id ∈ (setCells r i f).map (·.id) := List.mem_map_of_mem hx
      rw [setCells_id] at this
      obtain ⟨y, hy, he⟩ := List.mem_map.1 this
      rw [← he]
      exact h1 y hy

theorem Sat.ids (h : Sat cx β n H F w) : H.Pairwise (fun b c => b.id ≠ c.id) := h.inj.imp (fun hne q => hne (by rw [q]))

/-- Cells of a local block are written. -/
theorem Sat.set (h : Sat cx β n H F w) {i : Nat} {cs : List SL} {o : Nat} {ys : List SL} (hy : ∀ y ∈ ys, y.lt n)
    {w' : World} (hb : ∃ ty, (∃ b ∈ H, b.id = i ∧ b.ty = ty ∧ b.cells = cs) ∧ w'.heap[β i]? = some (.cells ((putAll cs o ys).map (SL.val β)).toArray ty (0, 0))) (hg : Chg (· = β i) w w') :
    Sat cx β n (setCells H i (fun l => putAll l o ys)) F w' := by
  obtain ⟨ty, ⟨b0, hb0, hi0, hty, hcs⟩, hb⟩ := hb
  have hcases : ∀ b ∈ setCells H i (fun l => putAll l o ys), (b ∈ H ∧ b.id ≠ i) ∨ b = ⟨i, ty, putAll cs o ys⟩ := by
    intro b hm
    rcases mem_setCells h.ids hm with q | ⟨c, hcm, hci, rfl⟩
    · exact .inl q
    · right
      have : c = b0 := by
        have hids := h.ids
        by_cases hcb : c = b0
        · exact hcb
        · exfalso
          obtain ⟨p, hp⟩ := List.getElem?_of_mem hcm
          obtain ⟨q, hq⟩ := List.getElem?_of_mem hb0
          obtain ⟨hpl, hpe⟩ := List.getElem?_eq_some_iff.1 hp
          obtain ⟨hql, hqe⟩ := List.getElem?_eq_some_iff.1 hq
          have hpw := List.pairwise_iff_getElem.1 hids
          rcases Nat.lt_trichotomy p q with hlt | heq | hgt
          · exact hpw p q hpl hql hlt (by rw [hpe, hqe, hci, hi0])
          · subst heq; rw [hp] at hq; exact hcb (Option.some.inj hq)
          · exact hpw q p hql hpl hgt (by rw [hpe, hqe, hci, hi0])
      subst this
      rw [hci, hty, hcs]
  have hmine : cx.S (β i) ∨ cx.W0.heap.size ≤ β i := by rw [← hi0]; exact h.mine b0 hb0
  have hne : ∀ b ∈ H, b.id ≠ i → β b.id ≠ β i := by
    intro b hm hne q
    obtain ⟨p, hp⟩ := List.getElem?_of_mem hm
    obtain ⟨r, hr⟩ := List.getElem?_of_mem hb0
    obtain ⟨hpl, hpe⟩ := List.getElem?_eq_some_iff.1 hp
    obtain ⟨hrl, hre⟩ := List.getElem?_eq_some_iff.1 hr
    have hpw := List.pairwise_iff_getElem.1 h.inj
    rcases Nat.lt_trichotomy p r with hlt | heq | hgt
    · exact hpw p r hpl hrl hlt (by rw [hpe, hre, q, hi0])
    · subst heq; rw [hp] at hr; obtain rfl := Option.some.inj hr; exact hne hi0
    · exact hpw r p hrl hpl hgt (by rw [hpe, hre, q, hi0])
  refine ⟨?_, h.fix, fun b hm => ?_, fun b hm => ?_, setCells_inj (fun x y => β x ≠ β y) h.inj, fun b hm => ?_, fun f hm => ?_, fun f hm k hk => Nat.lt_of_lt_of_le (h.flt f hm k hk) hg.size, fun f hm b hm' => ?_, h.fown, h.sepf, fun p hp => ⟨?_, (h.pin p hp).2⟩, h.mrk, h.rnd⟩
  · refine ⟨hg.os.trans h.chg.os, hg.tape.trans h.chg.tape, hg.output.trans h.chg.output, Nat.le_trans h.chg.size hg.size, fun k hk hn => ?_⟩
    rw [hg.same k (Nat.lt_of_lt_of_le hk h.chg.size) (fun q => ?_)]
    · exact h.chg.same k hk hn
    · subst q
      rcases hmine with q | q
      · exact hn q
      · omega
  · rcases hcases b hm with ⟨h1, h2⟩ | rfl
    · rw [hg.same _ (h.lt h1) (hne b h1 h2)]; exact h.blk b h1
    · exact hb
  · rcases hcases b hm with ⟨h1, h2⟩ | rfl
    · exact h.mine b h1
    · exact hmine
  · rcases hcases b hm with ⟨h1, h2⟩ | rfl
    · exact h.ltb b h1
    · refine ⟨by rw [← hi0]; exact (h.ltb b0 hb0).1, ?_⟩
      have key : ∀ (ys l : List SL) (o : Nat), (∀ x ∈ l, x.lt n) → (∀ x ∈ ys, x.lt n) → ∀ x ∈ putAll l o ys, x.lt n := by
        intro ys
        induction ys with
        | nil => intro l o hl _; exact hl
        | cons y ys ih =>
          intro l o hl hys
          refine ih _ _ (fun x hx => ?_) (fun x hx => hys x (List.mem_cons_of_mem _ hx))
          rw [putAt_eq] at hx
          rcases List.mem_or_eq_of_mem_set hx with hx | rfl
          · exact hl x hx
          · exact hys _ List.mem_cons_self
      exact key ys cs o (by rw [← hcs]; exact (h.ltb b0 hb0).2) hy
  · refine f.st _ _ (fun k hk => hg.same k (h.flt f hm k hk) (fun q => ?_)) (h.fact f hm)
    subst q
    rw [← hi0] at hk
    exact h.sepb f hm b0 hb0 hk
  · rcases hcases b hm' with ⟨h1, h2⟩ | rfl
    · exact h.sepb f hm b h1
    · rw [← hi0]; exact h.sepb f hm b0 hb0
  · rw [hg.same _ (h.pinLt hp) (fun q => by rw [← hi0] at q; exact h.pinBk hp hb0 q.symm)]; exact (h.pin p hp).1

def stwp (cx : Cx) (n : Nat) (env : Env) (H : List Bk) (F : List Fact) (dst : Option Tmp) (t : TypeId) (x y : Operand) (K : KT) : Prop :=
  match lk cx.tt t, ev env x, ev env y, dst with
  | some i, some s, some u, none => match flat u with
    | some ys => match Nat.beq ys.length i.size, allOne ys with
      | true, true => match s with
        | .c (.p id o) => match cellsAt H id with
          | some cs => match Nat.ble (o + ys.length) cs.length with
            | true => K n env (setCells H id (fun l => putAll l o ys)) F
            | false => False
          | none => False
        | .c (.v (.pointer (some ad))) => ∃ F', (∀ β w, Sat cx β n H F w → ∃ w', (storeCells ad (ys.map (SL.val β)) 0).run cx.P w = .ok () w' ∧ Sat cx β n H F' w') ∧ K n env H F'
        | _ => False
      | _, _ => False
    | none => False
  | _, _, _, _ => False

theorem run_storeVar {P : Program} {t : TypeId} {i : TI} (ti : TiOk P t i) {v : Value} (hv : v.cells.size = i.size) (ad : Addr) (w : World) : (storeVar t ad v).run P w = (storeCells ad v.cells.toList 0).run P w := by
  simp [storeVar, ti.run_size, hv]

theorem stwp_sound (g : Good cx) (h : Inv cx β n env H F a w) {o : Oper} {t : TypeId} {x y : Operand} (ho : o.op = .store t x y) {K : KT} (hp : stwp cx n env H F o.dst t x y K) {K' : Act → World → Prop} (hk : ∀ a w, AfterE cx β n K a w → K' a w) {Q : Exit → Act → World → Prop} : o.wpIn cx.fence 0 cx.P a w K' Q := by
  unfold stwp at hp
  split at hp
  · rename_i i s u hi hx hy hdst
    have ti := g.ti hi
    obtain ⟨h1, h2⟩ := h.ev hx
    obtain ⟨h3, h4⟩ := h.ev hy
    split at hp
    · rename_i ys hys
      have hcl := flat_cells hys β
      split at hp
      · rename_i hsz hone
        have hsz' : ys.length = i.size := Nat.eq_of_beq_eq_true hsz
        have hcsz : (u.val β).cells.size = i.size := by rw [← Array.length_toList, hcl, List.length_map, hsz']
        have hput : a.put o.dst undef = a := by rw [hdst]; rfl
        split at hp
        · rename_i id off
          split at hp
          · rename_i cs hc
            split at hp
            · rename_i hle
              have hle' : off + ys.length ≤ cs.length := Nat.le_of_ble_eq_true hle
              obtain ⟨b, hb, hbi, hbc⟩ := cellsAt_mem hc
              have hblk := h.sat.blk b hb
              rw [hbi, hbc] at hblk
              obtain ⟨w', e1, e2, e3, e4⟩ := run_storeCells (P := cx.P) (β id) b.ty (ys.map (SL.val β)) off 0 w (cs.map (SL.val β)) hblk (fun v hv => by obtain ⟨y', hy', rfl⟩ := List.mem_map.1 hv; exact SL.one_cell (allOne_mem hone y' hy') β) (by simp only [List.length_map]; omega)
              refine wp_skip' (w' := w') ?_ (notDefer ho (fun _ q => by cases q)) ?_
              · have e5 : (Instr.storeAt t (a.eval x) (a.eval y)).run cx.P w = .ok () w' := by
                  rw [h1, h3]
                  show (Instr.storeAt t (.pointer (some ⟨β id, off, none⟩)) (u.val β)).run cx.P w = .ok () w'
                  simp only [Instr.storeAt, Instr.sureAddr, pure_bind]
                  rw [run_storeVar ti hcsz, hcl]
                  exact e1
                simp only [execOp, ho, Sem.run_bind, e5, Result.andThen_ok, Sem.run_pure]
              · rw [hput]
                refine hk _ _ ⟨β, n, env, _, F, Agr.refl _ _, Nat.le_refl _, h.mem (h.sat.set (flat_lt hys h4) ⟨b.ty, ⟨b, hb, hbi, rfl, hbc⟩, ?_⟩ e3), hp⟩
                rw [e2, map_putAll, Nat.add_zero]
            · exact hp.elim
          · exact hp.elim
        · rename_i ad
          obtain ⟨F', hf, hK⟩ := hp
          obtain ⟨w', e1, e2⟩ := hf β w h.sat
          refine wp_skip' (w' := w') ?_ (notDefer ho (fun _ q => by cases q)) ?_
          · have e5 : (Instr.storeAt t (a.eval x) (a.eval y)).run cx.P w = .ok () w' := by
              rw [h1, h3]
              show (Instr.storeAt t (.pointer (some ad)) (u.val β)).run cx.P w = .ok () w'
              simp only [Instr.storeAt, Instr.sureAddr, pure_bind]
              rw [run_storeVar ti hcsz, hcl]
              exact e1
            simp only [execOp, ho, Sem.run_bind, e5, Result.andThen_ok, Sem.run_pure]
          · rw [hput]
            exact hk _ _ ⟨β, n, env, H, F', Agr.refl _ _, Nat.le_refl _, h.mem e2, hK⟩
        · exact hp.elim
      · exact hp.elim
    · exact hp.elim
  · exact hp.elim
end
end Go.Proofs.YthkjfepbmnabkaaDoor.Sx
