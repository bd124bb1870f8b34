/- Iterators: the call of yield, and their contracts' form. -/
import Derived.Test.YthkjfepbmnabkaaDoorSxRange
namespace Go.Proofs.YthkjfepbmnabkaaDoor.Sx
open Go

/-- No memory. -/
def noF : Fact where
  own := false
  D := None_
  p := fun _ => True
  st := fun _ _ _ h => h
def noO : Fact where
  own := true
  D := None_
  p := fun _ => True
  st := fun _ _ _ h => h

section
variable {cx : Cx} {β : Va} {n : Nat} {env : Env} {H : List Bk} {F : List Fact} {w w' : World} {dst : Option Tmp} {K : KT}
theorem Sat.nthMem (j : Nat) {f : Fact} (hj : nth F j = some f) : f ∈ F := List.mem_of_getElem? (by rw [← nth_eq]; exact hj)

theorem yield_ro {α : Type} {l : Nat} {J Jx : List α → Fact → Prop} {R : Fact} {ins : α → Array Value → Fact → Prop} (hY : Yc cx.P l J Jx R ins) {A : Va → Array Value} {pre : List α} {x : α} {f X : Fact}
    (jf jR : Nat) (hf : nth F jf = some f) (hJ : J pre f) (hfo : f.own = true) (hR : nth F jR = some R) (hRo : R.own = false) (hne : jf ≠ jR) (hins : ∀ β, ins x (A β) X) (hXo : X.own = false)
    (hX : ∀ β w, Sat cx β n H F w → X.p w ∧ (∀ k, X.D k → k < w.heap.size) ∧ ∀ k, f.D k → ¬ X.D k)
    (ht : ∀ f', f'.own = true → J (pre ++ [x]) f' → put cx.N n env H (f' :: dropIx [jf] 0 F) dst (.c (.v (.bool true))) K)
    (hs : ∀ f', f'.own = true → Jx (pre ++ [x]) f' → put cx.N n env H (f' :: dropIx [jf] 0 F) dst (.c (.v (.bool false))) K) :
    ∀ β w, Sat cx β n H F w → Yld cx.P l (A β) w fun v w' => Ret cx β n env dst K v w' := by
  intro β w hsat
  obtain ⟨h1, h2, h3⟩ := hX β w hsat
  have hfm := Sat.nthMem jf hf
  have hRm := Sat.nthMem jR hR
  have hap := hsat.apart (i := jf) (j := jR) (by rw [← nth_eq]; exact hf) (by rw [← nth_eq]; exact hR) hne (.inl hfo)
  have hm : Mem w [f, R, X] := by
    refine ⟨fun g hg => ?_, fun g hg k hk => ?_, ?_⟩
    · simp only [List.mem_cons, List.not_mem_nil, or_false] at hg
      rcases hg with rfl | rfl | rfl
      · exact hsat.fact _ hfm
      · exact hsat.fact _ hRm
      · exact h1
    · simp only [List.mem_cons, List.not_mem_nil, or_false] at hg
      rcases hg with rfl | rfl | rfl
      · exact hsat.flt _ hfm k hk
      · exact hsat.flt _ hRm k hk
      · exact h2 k hk
    · refine List.pairwise_cons.2 ⟨fun g hg _ => ?_, List.pairwise_cons.2 ⟨fun g hg ho => ?_, List.pairwise_singleton _ _⟩⟩
      · simp only [List.mem_cons, List.not_mem_nil, or_false] at hg
        rcases hg with rfl | rfl
        · exact hap
        · exact h3
      · obtain rfl := List.mem_singleton.1 hg
        rw [hRo, hXo] at ho
        rcases ho with q | q <;> cases q
  obtain ⟨fn, tmps, as_, body, hrun, hround⟩ := hY pre x f w (A β) X hJ hm (hins β)
  refine ⟨fn, tmps, as_, body, hrun, hround.mono ?_⟩
  rintro e w' ⟨v, rfl, f', hc, hfo', hfp', hD, hv⟩
  rw [gv_not hXo] at hc hD
  have htk : takeIx F [jf] = [f] := by simp only [takeIx, hf]
  have hsw := hsat.swap (w' := w') [jf] (by rw [htk]; exact ⟨hfo, trivial⟩) (Fs := [f']) (by rw [htk]; exact hc) ⟨fun g hg => by obtain rfl := List.mem_singleton.1 hg; exact hfp', fun g hg k hk => by obtain rfl := List.mem_singleton.1 hg; exact (hD k hk).2, List.pairwise_singleton _ _⟩ (by
    intro g hg k hk
    obtain rfl := List.mem_singleton.1 hg
    rw [htk]
    exact (hD k hk).1)
  refine ⟨v, rfl, ?_⟩
  rcases hv with ⟨rfl, hJ'⟩ | ⟨rfl, hJ'⟩
  · exact Ret.mk _ _ hsw (ht f' hfo' hJ')
  · exact Ret.mk _ _ hsw (hs f' hfo' hJ')

theorem yield_own {α : Type} {l : Nat} {J Jx : List α → Fact → Prop} {R : Fact} {ins : α → Array Value → Fact → Prop} (hY : Yc cx.P l J Jx R ins) {A : Va → Array Value} {pre : List α} {x : α} {f X : Fact}
    (jf jR jX : Nat) (hf : nth F jf = some f) (hJ : J pre f) (hfo : f.own = true) (hR : nth F jR = some R) (hX : nth F jX = some X) (hXo : X.own = true) (hne : jf ≠ jR) (hne2 : jf ≠ jX) (hne3 : jR ≠ jX) (hins : ∀ β, ins x (A β) X)
    (ht : ∀ f', f'.own = true → J (pre ++ [x]) f' → put cx.N n env H (f' :: dropIx [jf, jX] 0 F) dst (.c (.v (.bool true))) K)
    (hs : ∀ f', f'.own = true → Jx (pre ++ [x]) f' → put cx.N n env H (f' :: dropIx [jf, jX] 0 F) dst (.c (.v (.bool false))) K) :
    ∀ β w, Sat cx β n H F w → Yld cx.P l (A β) w fun v w' => Ret cx β n env dst K v w' := by
  intro β w hsat
  have hfm := Sat.nthMem jf hf
  have hRm := Sat.nthMem jR hR
  have hXm := Sat.nthMem jX hX
  rw [nth_eq] at hf hR hX
  have hm : Mem w [f, R, X] := by
    refine ⟨fun g hg => ?_, fun g hg k hk => ?_, ?_⟩
    · simp only [List.mem_cons, List.not_mem_nil, or_false] at hg
      rcases hg with rfl | rfl | rfl
      · exact hsat.fact _ hfm
      · exact hsat.fact _ hRm
      · exact hsat.fact _ hXm
    · simp only [List.mem_cons, List.not_mem_nil, or_false] at hg
      rcases hg with rfl | rfl | rfl
      · exact hsat.flt _ hfm k hk
      · exact hsat.flt _ hRm k hk
      · exact hsat.flt _ hXm k hk
    · refine List.pairwise_cons.2 ⟨fun g hg _ => ?_, List.pairwise_cons.2 ⟨fun g hg ho => ?_, List.pairwise_singleton _ _⟩⟩
      · simp only [List.mem_cons, List.not_mem_nil, or_false] at hg
        rcases hg with rfl | rfl
        · exact hsat.apart hf hR hne (.inl hfo)
        · exact hsat.apart hf hX hne2 (.inl hfo)
      · obtain rfl := List.mem_singleton.1 hg
        exact hsat.apart hR hX hne3 (.inr hXo)
  obtain ⟨fn, tmps, as_, body, hrun, hround⟩ := hY pre x f w (A β) X hJ hm (hins β)
  refine ⟨fn, tmps, as_, body, hrun, hround.mono ?_⟩
  rintro e w' ⟨v, rfl, f', hc, hfo', hfp', hD, hv⟩
  rw [gv_own hXo] at hc hD
  have htk : takeIx F [jf, jX] = [f, X] := by simp only [takeIx, nth_eq, hf, hX]
  have hsw := hsat.swap (w' := w') [jf, jX] (by rw [htk]; exact ⟨hfo, hXo, trivial⟩) (Fs := [f']) (by rw [htk]; exact hc) ⟨fun g hg => by obtain rfl := List.mem_singleton.1 hg; exact hfp', fun g hg k hk => by obtain rfl := List.mem_singleton.1 hg; exact (hD k hk).2, List.pairwise_singleton _ _⟩ (by
    intro g hg k hk
    obtain rfl := List.mem_singleton.1 hg
    rw [htk]
    exact (hD k hk).1)
  refine ⟨v, rfl, ?_⟩
  rcases hv with ⟨rfl, hJ'⟩ | ⟨rfl, hJ'⟩
  · exact Ret.mk _ _ hsw (ht f' hfo' hJ')
  · exact Ret.mk _ _ hsw (hs f' hfo' hJ')

/-- The beginning of a function that is handed only facts. -/
theorem Mem.sat0 (h : Mem w F) (hW : cx.W0 = w := by rfl) (hS : ∀ f ∈ F, f.own = true → ∀ k, f.D k → cx.S k) (hbs : cx.bs = [] := by rfl)
    (hp : β.pins = [] := by rfl) (hm : β.marks = [] := by rfl) (hr : cx.rnd = none := by rfl) (hpn : cx.pn = [] := by rfl) : Sat cx β n [] F w :=
  h.sat hW hS ⟨by rw [hbs]; exact Nat.zero_le _, fun i hi => by rw [hbs] at hi; cases hi⟩ hp hm hr hpn
/-- The owned ones stand in front. -/
theorem ownIn {Gs Rs : List Fact} (hR : ∀ g ∈ Rs, g.own = false) : ∀ f ∈ Gs ++ Rs, f.own = true → ∀ k, f.D k → Un Gs k := fun f hf ho k hk => by
  rcases List.mem_append.1 hf with q | q
  · exact ⟨f, q, hk⟩
  · rw [hR f q] at ho; cases ho
end
/-! ### a local block's number becomes an address that is named -/
def SL.re (id b : Nat) : SL → SL
  | .v x => .v x
  | .p i o => match Nat.beq i id with | true => .v (.pointer (some ⟨b, o, none⟩)) | false => .p i o
def SV.re (id b : Nat) : SV → SV
  | .c x => .c (x.re id b)
  | .agg xs => .agg (xs.map (SL.re id b))
  | .fn f u v => .fn f (u.map (SL.re id b)) (v.map (SL.re id b))
def envRe (id b : Nat) : Env → Env
  | [] => []
  | (t, s) :: r => (t, s.re id b) :: envRe id b r
def bksRe (id b : Nat) : List Bk → List Bk
  | [] => []
  | k :: r => match Nat.beq k.id id with | true => bksRe id b r | false => ⟨k.id, k.ty, k.cells.map (SL.re id b)⟩ :: bksRe id b r
def tyAt : List Bk → Nat → Option TypeId
  | [], _ => none
  | b :: r, i => match Nat.beq b.id i with | true => some b.ty | false => tyAt r i
theorem SL.re_val {id b : Nat} {β : Va} (h : β id = b) (x : SL) : (x.re id b).val β = x.val β := by
  cases x with
  | v x => rfl
  | p i o =>
    simp only [SL.re]
    cases hb : Nat.beq i id with
    | true => obtain rfl := Nat.eq_of_beq_eq_true hb; simp only [SL.val, h]
    | false => rfl
theorem SL.re_lt {id b n : Nat} {x : SL} (h : x.lt n) : (x.re id b).lt n := by
  cases x with
  | v x => trivial
  | p i o =>
    simp only [SL.re]
    cases hb : Nat.beq i id with
    | true => trivial
    | false => exact h
theorem SV.re_val {id b : Nat} {β : Va} (h : β id = b) (x : SV) : (x.re id b).val β = x.val β := by
  have key : ∀ l : List SL, (l.map (SL.re id b)).map (SL.val β) = l.map (SL.val β) := fun l => by
    rw [List.map_map]; exact List.map_congr_left fun x _ => SL.re_val h x
  cases x <;> simp only [SV.re, SV.val, SL.re_val h, key]
theorem SV.re_lt {id b n : Nat} {x : SV} (h : x.lt n) : (x.re id b).lt n := by
  have key : ∀ l : List SL, (∀ x ∈ l, x.lt n) → ∀ x ∈ l.map (SL.re id b), x.lt n := fun l hl x hx => by
    obtain ⟨y, hy, rfl⟩ := List.mem_map.1 hx
    exact SL.re_lt (hl y hy)
  cases x with
  | c x => exact SL.re_lt h
  | agg xs => exact key xs h
  | fn f u v => exact ⟨key u h.1, key v h.2⟩
theorem envRe_get {id b : Nat} : ∀ {env : Env} {t : Nat} {s : SV}, get (envRe id b env) t = some s → ∃ u, get env t = some u ∧ s = u.re id b
  | [], t, s, h => by cases h
  | (u, s') :: r, t, s, h => by
    simp only [envRe] at h
    by_cases hut : u = t
    · subst hut
      rw [get_same] at h
      exact ⟨s', get_same _ _ _, (Option.some.inj h).symm⟩
    · rw [get_other _ _ hut] at h
      obtain ⟨v, hv, e⟩ := envRe_get h
      exact ⟨v, by rw [get_other _ _ hut]; exact hv, e⟩
theorem bksRe_mem {id b : Nat} : ∀ {H : List Bk} {c : Bk}, c ∈ bksRe id b H → ∃ k ∈ H, k.id ≠ id ∧ c = ⟨k.id, k.ty, k.cells.map (SL.re id b)⟩
  | k :: r, c, h => by
    simp only [bksRe] at h
    cases hb : Nat.beq k.id id with
    | true =>
      rw [hb] at h
      obtain ⟨k', hk, e⟩ := bksRe_mem h
      exact ⟨k', List.mem_cons_of_mem _ hk, e⟩
    | false =>
      rw [hb] at h
      rcases List.mem_cons.1 h with rfl | h
      · exact ⟨k, List.mem_cons_self, fun q => (by rw [q, Nat.beq_refl] at hb; cases hb), rfl⟩
      · obtain ⟨k', hk, e⟩ := bksRe_mem h
        exact ⟨k', List.mem_cons_of_mem _ hk, e⟩
theorem bksRe_pw {id b : Nat} (R : Nat → Nat → Prop) : ∀ {H : List Bk}, H.Pairwise (fun b c => R b.id c.id) → (bksRe id b H).Pairwise (fun b c => R b.id c.id)
  | [], _ => List.Pairwise.nil
  | k :: r, h => by
    obtain ⟨h1, h2⟩ := List.pairwise_cons.1 h
    simp only [bksRe]
    cases hb : Nat.beq k.id id with
    | true => exact bksRe_pw R h2
    | false =>
      refine List.pairwise_cons.2 ⟨fun x hx => ?_, bksRe_pw R h2⟩
      obtain ⟨k', hk, _, rfl⟩ := bksRe_mem hx
      exact h1 k' hk
theorem tyAt_mem {H : List Bk} {i : Nat} {t : TypeId} {cs : List SL} (h : tyAt H i = some t) (h2 : cellsAt H i = some cs) : (⟨i, t, cs⟩ : Bk) ∈ H := by
  induction H with
  | nil => cases h
  | cons b r ih =>
    simp only [tyAt] at h
    simp only [cellsAt] at h2
    cases hb : Nat.beq b.id i with
    | true =>
      rw [hb] at h h2
      have := Nat.eq_of_beq_eq_true hb
      obtain rfl := Option.some.inj h
      obtain rfl := Option.some.inj h2
      subst this
      exact List.mem_cons_self
    | false =>
      rw [hb] at h h2
      exact List.mem_cons_of_mem _ (ih h h2)

theorem Sat.reify {cx : Cx} {β : Va} {n : Nat} {H : List Bk} {F : List Fact} {w : World} (h : Sat cx β n H F w) (id : Nat) {ty : TypeId} {cs : List SL} {vs : List Value} (h1 : tyAt H id = some ty) (h2 : cellsAt H id = some cs) (h3 : allV (cs.map (SL.re id (β id))) = some vs) :
    Sat cx β n (bksRe id (β id) H) (bkF (β id) ty vs :: F) w := by
  have hm := tyAt_mem h1 h2
  have hb := h.blk _ hm
  have hvs := allV_spec h3
  have hcv : cs.map (SL.val β) = vs := by
    have e1 : (cs.map (SL.re id (β id))).map (SL.val β) = cs.map (SL.val β) := by
      rw [List.map_map]; exact List.map_congr_left fun x _ => SL.re_val rfl x
    rw [← e1, hvs, List.map_map]
    have : (SL.val β ∘ SL.v) = (fun x : Value => x) := rfl
    rw [this, List.map_id']
  have hp : w.heap[β id]? = some (.cells vs.toArray ty (0, 0)) := by rw [← hcv]; exact hb
  have h4 : Sat cx β n (bksRe id (β id) H) F w := by
    refine ⟨h.chg, h.fix, fun b hb => ?_, fun b hb => ?_, bksRe_pw (fun x y => β x ≠ β y) h.inj, fun b hb => ?_, h.fact, h.flt, fun f hf b hb => ?_, h.fown, h.sepf, h.pin, h.mrk, h.rnd⟩
    all_goals obtain ⟨k, hk, _, rfl⟩ := bksRe_mem hb
    · have := h.blk k hk
      simp only
      rw [this, List.map_map, show SL.val β ∘ SL.re id (β id) = SL.val β from funext fun x => SL.re_val rfl x]
    · exact h.mine k hk
    · refine ⟨(h.ltb k hk).1, fun x hx => ?_⟩
      obtain ⟨y, hy, rfl⟩ := List.mem_map.1 hx
      exact SL.re_lt ((h.ltb k hk).2 y hy)
    · exact h.sepb f hf k hk
  refine h4.old (bkF (β id) ty vs) hp (fun k hk => ?_) (fun b hb q => ?_) (fun _ k hk => ?_) (fun g hg _ k hk q => ?_) (fun p hp q => ?_)
  · obtain rfl : k = β id := hk; exact h.lt hm
  · obtain ⟨k, hk, hne, rfl⟩ := bksRe_mem hb
    have hq : β k.id = β id := q
    obtain ⟨i, hi⟩ := List.getElem?_of_mem hk
    obtain ⟨j, hj⟩ := List.getElem?_of_mem hm
    obtain ⟨hil, rfl⟩ := List.getElem?_eq_some_iff.1 hi
    obtain ⟨hjl, hje⟩ := List.getElem?_eq_some_iff.1 hj
    have hpw := List.pairwise_iff_getElem.1 h.inj
    rcases Nat.lt_trichotomy i j with hlt | heq | hgt
    · exact hpw i j hil hjl hlt (by rw [hje]; exact hq)
    · subst heq; rw [hje] at hne; exact hne rfl
    · exact hpw j i hjl hil hgt (by rw [hje]; exact hq.symm)
  · obtain rfl : k = β id := hk; exact h.mine _ hm
  · obtain rfl : k = β id := hk; exact h.sepb g hg _ hm q
  · exact h.pinBk hp hm (Eq.symm q)

/-- At a statement: the block's address is named. -/
theorem reify_rule {cx : Cx} (g : Good cx) {c : Code} {Q : Exit → KT} {n : Nat} {env : Env} {H : List Bk} {F : List Fact} (id : Nat) {ty : TypeId} {cs : List SL} (vs : Nat → List Value) (h1 : tyAt H id = some ty) (h2 : cellsAt H id = some cs) (h3 : ∀ b, allV (cs.map (SL.re id b)) = some (vs b))
    (h : ∀ b, cwp cx c Q n (envRe id b env) (bksRe id b H) (bkF b ty (vs b) :: F)) : Tri cx c Q n env H F := by
  refine ⟨fun β a w hi => (cwp_sound g c Q n _ _ _ (h (β id))).run β a w ⟨fun t s ht => ?_, hi.size, hi.df, fun t s ht => ?_, hi.sat.reify id h1 h2 (h3 (β id))⟩⟩
  · obtain ⟨u, hu, rfl⟩ := envRe_get ht
    rw [SV.re_val rfl]; exact hi.ag t u hu
  · obtain ⟨u, hu, rfl⟩ := envRe_get ht
    exact SV.re_lt (hi.lte t u hu)
/-- What is known at a place where ways meet, or a loop begins: one of many states, chosen when memory is known. -/
structure EntX {ι : Type} (cx : Cx) (n : Nat) (env : Env) (H : List Bk) (F : List Fact) (T : ι → Prop) (n' : Nat) (E : ι → Env) (HH : ι → List Bk) (FF : ι → List Fact) : Prop where
  run : ∀ β a w, Inv cx β n env H F a w → ∃ (i : ι) (β' : Va), T i ∧ β'.pins = β.pins ∧ β'.marks = β.marks ∧ Inv cx β' n' (E i) (HH i) (FF i) a w
section
variable {ι : Type} {cx : Cx} {n n' : Nat} {env : Env} {H : List Bk} {F : List Fact} {T : ι → Prop} {E : ι → Env} {HH : ι → List Bk} {FF : ι → List Fact}
theorem EntX.of (i : ι) (hi : T i) (h : Ent cx n env H F n' (E i) (HH i) (FF i)) : EntX cx n env H F T n' E HH FF :=
  ⟨fun β a w hv => by obtain ⟨β', h1, h2, h3⟩ := h.run β a w hv; exact ⟨i, β', hi, h1, h2, h3⟩⟩
theorem EntX.reify (id : Nat) {ty : TypeId} {cs : List SL} (vs : Nat → List Value) (h1 : tyAt H id = some ty) (h2 : cellsAt H id = some cs) (h3 : ∀ b, allV (cs.map (SL.re id b)) = some (vs b))
    (h : ∀ b, EntX cx n (envRe id b env) (bksRe id b H) (bkF b ty (vs b) :: F) T n' E HH FF) : EntX cx n env H F T n' E HH FF := by
  refine ⟨fun β a w hi => ?_⟩
  refine (h (β id)).run β a w ⟨fun t s ht => ?_, hi.size, hi.df, fun t s ht => ?_, hi.sat.reify id h1 h2 (h3 (β id))⟩
  · obtain ⟨u, hu, rfl⟩ := envRe_get ht
    rw [SV.re_val rfl]; exact hi.ag t u hu
  · obtain ⟨u, hu, rfl⟩ := envRe_get ht
    exact SV.re_lt (hi.lte t u hu)
theorem tri_join {c : Code} {Q : Exit → KT} (T : ι → Prop) (n' : Nat) (E : ι → Env) (HH : ι → List Bk) (FF : ι → List Fact) (hkey : ∀ i, T i → Tri cx c Q n' (E i) (HH i) (FF i)) (h : EntX cx n env H F T n' E HH FF) : Tri cx c Q n env H F :=
  ⟨fun β a w hv => by obtain ⟨i, β', hi, _, _, h3⟩ := h.run β a w hv; exact (hkey i hi).run β' a w h3⟩
theorem bif_join {c : Code} {Q : Exit → KT} {n2 : Nat} {env2 : Env} {H2 : List Bk} {F2 : List Fact} {b : Bool} (T : ι → Prop) (n' : Nat) (E : ι → Env) (HH : ι → List Bk) (FF : ι → List Fact) (ha : b = true → EntX cx n env H F T n' E HH FF) (hb : b = false → EntX cx n2 env2 H2 F2 T n' E HH FF)
    (hkey : ∀ i, T i → Tri cx c Q n' (E i) (HH i) (FF i)) : BIf (Tri cx c Q n env H F) (Tri cx c Q n2 env2 H2 F2) b :=
  BIf.mk (fun h => tri_join T n' E HH FF hkey (ha h)) (fun h => tri_join T n' E HH FF hkey (hb h))
end
/-! ### the ways out of a loop meet -/
def exitIs (id : Nat) : Exit → Bool
  | .exit i => Nat.beq i id
  | _ => false
def joinQ {κ : Type} (cx : Cx) (id : Nat) (X : κ → Prop) (n2 : Nat) (E2 : κ → Env) (HH2 : κ → List Bk) (FF2 : κ → List Fact) (Q : Exit → KT) : Exit → KT := fun e => match exitIs id e with
  | true => fun m env H F => EntX cx m env H F X n2 E2 HH2 FF2
  | false => Q e
theorem tri_exit {κ : Type} {cx : Cx} {n : Nat} {env : Env} {H : List Bk} {F : List Fact} {c : Code} {Q : Exit → KT} (id : Nat) (X : κ → Prop) (n2 : Nat) (E2 : κ → Env) (HH2 : κ → List Bk) (FF2 : κ → List Fact)
    (hx : ∀ j, X j → Q (.exit id) n2 (E2 j) (HH2 j) (FF2 j)) (h : Tri cx c (joinQ cx id X n2 E2 HH2 FF2 Q) n env H F) : Tri cx c Q n env H F := by
  refine ⟨fun β a w hv => wpIn_mono (h.run β a w hv) fun e a' w' hp => ?_⟩
  have plain : exitIs id e = false → After cx (joinQ cx id X n2 E2 HH2 FF2 Q e) a' w' → After cx (Q e) a' w' := by
    intro he hq
    unfold joinQ at hq
    rw [he] at hq
    exact hq
  cases e with
  | exit i =>
    cases hb : exitIs id (.exit i) with
    | false => exact plain hb hp
    | true =>
      obtain rfl : i = id := Nat.eq_of_beq_eq_true hb
      obtain ⟨β', n1, env1, H1, F1, hi, hq⟩ := hp
      unfold joinQ at hq
      rw [hb] at hq
      obtain ⟨j, β2, hj, _, _, hi2⟩ := hq.run β' a' w' hi
      exact ⟨β2, n2, E2 j, HH2 j, FF2 j, hi2, hx j hj⟩
  | normal => exact plain rfl hp
  | ret => exact plain rfl hp
  | goto l => exact plain rfl hp
  | panic c => exact hp
  | outgrown => exact hp
#print axioms tri_exit
#print axioms reify_rule
end Go.Proofs.YthkjfepbmnabkaaDoor.Sx
