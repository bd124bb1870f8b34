/- A range over a function: the caller's rounds as something owned that the iterator hands to and fro. -/
import Derived.Test.YthkjfepbmnabkaaDoorSxCon
namespace Go.Proofs.YthkjfepbmnabkaaDoor.Sx
open Go

/-- All that the caller's rounds own. -/
def heldF (β : Va) (H : List Bk) (F : List Fact) (ps : List (Nat × Obj)) : Fact where
  own := true
  D := fun k => (∃ b ∈ H, β b.id = k) ∨ (∃ f ∈ F, f.D k) ∨ (∃ p ∈ ps, p.1 = k)
  p := fun w => (∀ b ∈ H, w.heap[β b.id]? = some (.cells (b.cells.map (SL.val β)).toArray b.ty (0, 0))) ∧ (∀ f ∈ F, f.p w) ∧ (∀ p ∈ ps, w.heap[p.1]? = some p.2)
  st := fun w w' hs h => ⟨fun b hb => by rw [hs _ (.inl ⟨b, hb, rfl⟩)]; exact h.1 b hb, fun f hf => f.st w w' (fun k hk => hs k (.inr (.inl ⟨f, hf, hk⟩))) (h.2.1 f hf), fun p hp => by rw [hs _ (.inr (.inr ⟨p, hp, rfl⟩))]; exact h.2.2 p hp⟩
/-- What is only read, together. -/
def readF (Fs : List Fact) : Fact where
  own := false
  D := Un Fs
  p := fun w => ∀ f ∈ Fs, f.p w
  st := fun w w' hs h f hf => f.st w w' (fun k hk => hs k ⟨f, hf, hk⟩) (h f hf)
structure Sta (β : Va) (n : Nat) (H : List Bk) (F : List Fact) (ps : List (Nat × Obj)) : Prop where
  inj : H.Pairwise (fun b c => β b.id ≠ β c.id)
  ltb : ∀ b ∈ H, b.id < n ∧ ∀ x ∈ b.cells, x.lt n
  sepb : ∀ f ∈ F, ∀ b ∈ H, ¬ f.D (β b.id)
  sepf : F.Pairwise (fun f g => f.own = true ∨ g.own = true → ∀ k, f.D k → ¬ g.D k)
  own : Owns F
  pinf : ∀ p ∈ ps, p.2.isCells = false ∧ ∀ f ∈ F, ¬ f.D p.1

/-- What is handed over for good. -/
def gv (X : Fact) : List Fact := match X.own with | true => [X] | false => []
theorem gv_mem {X g : Fact} (h : g ∈ gv X) : g = X ∧ X.own = true := by
  unfold gv at h
  cases ho : X.own with
  | true => rw [ho] at h; exact ⟨List.mem_singleton.1 h, rfl⟩
  | false => rw [ho] at h; cases h
theorem gv_own {X : Fact} (h : X.own = true) : gv X = [X] := by unfold gv; rw [h]
theorem gv_not {X : Fact} (h : X.own = false) : gv X = [] := by unfold gv; rw [h]
/-- What a round does, as the iterator sees it: it takes what the caller owns, and hands it back a round later. -/
def Yc {α : Type} (P : Program) (l : Nat) (J Jx : List α → Fact → Prop) (R : Fact) (ins : α → Array Value → Fact → Prop) : Prop :=
  ∀ (pre : List α) (x : α) (f : Fact) (w : World) (args : Array Value) (X : Fact), J pre f → Mem w [f, R, X] → ins x args X →
    Yld P l args w fun v w' => ∃ f', Chg (Un (f :: gv X)) w w' ∧ f'.own = true ∧ f'.p w' ∧ (∀ k, f'.D k → (Un (f :: gv X) k ∨ w.heap.size ≤ k) ∧ k < w'.heap.size) ∧
      ((v = .bool true ∧ J (pre ++ [x]) f') ∨ (v = .bool false ∧ Jx (pre ++ [x]) f'))

/-- The frame of a round. -/
abbrev rcx (cx : Cx) (w : World) (S : Nat → Prop) (l : Nat) (bs : List Nat) (pn : List (Nat × Obj)) : Cx := ⟨cx.P, w, S, cx.N, cx.tt, cx.fns, bs, some l, pn⟩
theorem rcx_good {cx : Cx} (g : Good cx) {w : World} {S : Nat → Prop} {l : Nat} {bs : List Nat} {pn : List (Nat × Obj)} : Good (rcx cx w S l bs pn) := ⟨g.ok, g.fn, g.mixed⟩
/-- Yield's arguments in their temporaries. -/
def bindP (N : Nat) : List Tmp → List Value → Env → Option Env
  | [], [], e => some e
  | t :: ts, v :: vs, e => match Nat.blt t N with | true => bindP N ts vs ((t, ofValue v) :: e) | false => none
  | _, _, _ => none
def norm (k : KT) : Exit → KT
  | .normal => k
  | _ => fun _ _ _ _ => False
def jumpOf : Exit → Option Code
  | .ret => some .ret
  | .exit id => some (.exit id)
  | _ => none

section
variable {cx : Cx} {β : Va} {n : Nat} {env : Env} {H : List Bk} {F : List Fact} {a : Act} {w w' : World}

theorem bindP_ag {N : Nat} : ∀ (ts : List Tmp) (vs : List Value) (e e' : Env) (tmps : Array Value), bindP N ts vs e = some e' → tmps.size = N → (∀ t s, get e t = some s → tmps[t]? = some (s.val β)) → (∀ t s, get e t = some s → s.lt n) →
    (((ts.zip vs).foldl (fun t (q : Tmp × Value) => t.setIfInBounds q.1 q.2) tmps).size = N) ∧ (∀ t s, get e' t = some s → ((ts.zip vs).foldl (fun t (q : Tmp × Value) => t.setIfInBounds q.1 q.2) tmps)[t]? = some (s.val β)) ∧ (∀ t s, get e' t = some s → s.lt n) ∧ ts.length = vs.length
  | [], [], e, e', tmps, h, hN, hag, hlt => by
    simp only [bindP, Option.some.injEq] at h
    subst h
    exact ⟨hN, hag, hlt, rfl⟩
  | t :: ts, v :: vs, e, e', tmps, h, hN, hag, hlt => by
    simp only [bindP] at h
    cases hb : Nat.blt t N with
    | false => rw [hb] at h; cases h
    | true =>
      rw [hb] at h
      have ht : t < N := by simpa [Nat.blt_eq] using hb
      have := bindP_ag ts vs _ e' (tmps.setIfInBounds t v) h (by simp [hN]) ?_ ?_
      · exact ⟨this.1, this.2.1, this.2.2.1, by simp [this.2.2.2]⟩
      · intro u s hu
        by_cases htu : t = u
        · subst htu
          rw [get_same] at hu
          obtain rfl := Option.some.inj hu
          rw [Array.getElem?_setIfInBounds]
          simp [hN, ht, ofValue_val]
        · rw [get_other _ _ htu] at hu
          rw [Array.getElem?_setIfInBounds_ne htu]
          exact hag u s hu
      · intro u s hu
        by_cases htu : t = u
        · subst htu
          rw [get_same] at hu
          obtain rfl := Option.some.inj hu
          exact ofValue_lt _ _
        · rw [get_other _ _ htu] at hu
          exact hlt u s hu
  | [], _ :: _, _, _, _, h, _, _, _ => by cases h
  | _ :: _, [], _, _, _, h, _, _, _ => by cases h

theorem Mem.three {f R X : Fact} {w : World} (hf : f.own = true) (_hR : R.own = false) (h : Mem w [f, R, X]) : f.p w ∧ R.p w ∧ X.p w ∧ (∀ k, f.D k → k < w.heap.size) ∧ (∀ k, R.D k → k < w.heap.size) ∧ (∀ k, X.D k → k < w.heap.size) ∧ (∀ k, f.D k → ¬ R.D k) ∧ (∀ k, f.D k → ¬ X.D k) ∧ (X.own = true → ∀ k, R.D k → ¬ X.D k) := by
  have h1 := List.pairwise_cons.1 h.sepf
  have h2 := List.pairwise_cons.1 h1.2
  exact ⟨h.fact f (by simp), h.fact R (by simp), h.fact X (by simp), h.flt f (by simp), h.flt R (by simp), h.flt X (by simp), h1.1 R (by simp) (.inl hf), h1.1 X (by simp) (.inl hf), fun q => h2.1 X (by simp) (.inr q)⟩

/-- A round's beginning: the caller's state out of what was packed. -/
theorem round_sat {Fr : List Fact} {X : Fact} {ps : List (Nat × Obj)} (hst : Sta β n H F ps) (hFr : ∀ g ∈ Fr, g.own = false)
    (hm : Mem w [heldF β H F ps, readF Fr, X]) {n0 : Nat} (hn : n0 ≤ n) {bs : List Nat} (hbs : bs.length = n0) (hbi : ∀ i, i < n0 → β i = bs.getD i 0) {l : Nat} {r : Loop} (hl : (l, Obj.loop r) ∈ ps) (hps : β.pins = ps) (hmk : β.marks = []) :
    Sat (rcx cx w (Un (heldF β H F ps :: gv X)) l bs ps) β n H (X :: F ++ Fr) w := by
  obtain ⟨h1, h2, h3, h4, h5, h6, h7, h8, h9⟩ := hm.three rfl rfl
  have inS : ∀ k, (heldF β H F ps).D k → Un (heldF β H F ps :: gv X) k := fun k hk => ⟨_, List.mem_cons_self, hk⟩
  have hmemF : ∀ f ∈ X :: F ++ Fr, f = X ∨ f ∈ F ∨ f ∈ Fr := by
    intro f hf
    rcases List.mem_append.1 hf with hf | hf
    · rcases List.mem_cons.1 hf with rfl | hf
      · exact .inl rfl
      · exact .inr (.inl hf)
    · exact .inr (.inr hf)
  refine ⟨Chg.refl _ _, ⟨by show bs.length ≤ n; omega, fun i hi => hbi i (by rw [← hbs]; exact hi)⟩, h1.1, fun b hb => .inl (inS _ (.inl ⟨b, hb, rfl⟩)), hst.inj, hst.ltb, fun f hf => ?_, fun f hf k hk => ?_, fun f hf b hb q => ?_, fun f hf ho k hk => ?_, ?_, fun p hp => ?_, ⟨by rw [hmk]; exact List.nodup_nil, fun q hq => by rw [hmk] at hq; cases hq⟩, ⟨fun p hp => by rw [hps]; exact hp, fun l' hl' => ⟨hmk, r, by rw [hps]; obtain rfl : l = l' := Option.some.inj hl'; exact hl⟩⟩⟩
  · rcases hmemF f hf with rfl | hf | hf
    · exact h3
    · exact h1.2.1 f hf
    · exact h2 f hf
  · rcases hmemF f hf with rfl | hf | hf
    · exact h6 k hk
    · exact h4 k (.inr (.inl ⟨f, hf, hk⟩))
    · exact h5 k ⟨f, hf, hk⟩
  · rcases hmemF f hf with rfl | hf | hf
    · exact h8 _ (.inl ⟨b, hb, rfl⟩) q
    · exact hst.sepb f hf b hb q
    · exact h7 _ (.inl ⟨b, hb, rfl⟩) ⟨f, hf, q⟩
  · rcases hmemF f hf with rfl | hf | hf
    · exact .inl ⟨f, List.mem_cons_of_mem _ (by rw [gv_own ho]; exact List.mem_singleton.2 rfl), hk⟩
    · exact .inl (inS _ (.inr (.inl ⟨f, hf, hk⟩)))
    · rw [hFr f hf] at ho; cases ho
  · refine List.pairwise_append.2 ⟨List.pairwise_cons.2 ⟨fun g hg _ k hk hk' => h8 k (.inr (.inl ⟨g, hg, hk'⟩)) hk, hst.sepf⟩, ?_, fun f hf g hg ho k hk hk' => ?_⟩
    · refine List.pairwise_iff_getElem.2 fun i j hi hj _ ho => ?_
      rw [hFr _ (List.getElem_mem hi), hFr _ (List.getElem_mem hj)] at ho
      rcases ho with q | q <;> cases q
    · rcases List.mem_cons.1 hf with rfl | hf
      · rw [hFr g hg] at ho
        exact h9 (ho.resolve_right (by decide)) k ⟨g, hg, hk'⟩ hk
      · exact h7 k (.inr (.inl ⟨f, hf, hk⟩)) ⟨g, hg, hk'⟩
  · rw [hps] at hp
    refine ⟨h1.2.2 p hp, (hst.pinf p hp).1, fun f hf q => ?_⟩
    rcases hmemF f hf with rfl | hf | hf
    · exact h8 _ (.inr (.inr ⟨p, hp, rfl⟩)) q
    · exact (hst.pinf p hp).2 f hf q
    · exact h7 _ (.inr (.inr ⟨p, hp, rfl⟩)) ⟨f, hf, q⟩

/-- The record is put anew. -/
theorem Sat.repin {W0 : World} {S : Nat → Prop} {l : Nat} {bs : List Nat} {o o' : Obj} {P0 : List (Nat × Obj)} (h : Sat (rcx cx W0 S l bs ((l, o) :: P0)) β n H F w) (ho' : o'.isCells = false) (hr : ∃ r, o' = Obj.loop r) (hP : ∀ p ∈ P0, p.1 ≠ l) (hS : S l) :
    Sat (rcx cx W0 S l bs ((l, o') :: P0)) ⟨β.b, (l, o') :: P0, []⟩ n H F (w.putObj l o') := by
  have hlp : (l, o) ∈ β.pins := h.rnd.1 _ List.mem_cons_self
  have hlf : ∀ f ∈ F, ¬ f.D l := (h.pin _ hlp).2.2
  have hll : l < w.heap.size := h.pinLt hlp
  have hoth : ∀ k, k ≠ l → (w.putObj l o').heap[k]? = w.heap[k]? := fun k hk => World.putObj_heap_other hk
  refine ⟨⟨h.chg.os, h.chg.tape, h.chg.output, by rw [World.putObj_size]; exact h.chg.size, fun k hk hs => ?_⟩, h.fix, fun b hb => ?_, h.mine, h.inj, h.ltb, fun f hf => ?_, fun f hf k hk => ?_, h.sepb, h.fown, h.sepf, fun p hp => ?_, ⟨List.nodup_nil, fun q hq => by cases hq⟩, ⟨fun p hp => hp, fun l' hl' => ⟨rfl, ?_⟩⟩⟩
  · rw [hoth k (fun q => hs (q ▸ hS))]; exact h.chg.same k hk hs
  · rw [hoth _ (h.pinBk hlp hb)]; exact h.blk b hb
  · exact f.st _ _ (fun k hk => hoth k (fun q => by subst q; exact hlf f hf hk)) (h.fact f hf)
  · rw [World.putObj_size]; exact h.flt f hf k hk
  · rcases List.mem_cons.1 hp with rfl | hp
    · exact ⟨World.putObj_heap_same hll, ho', hlf⟩
    · have := h.pin p (h.rnd.1 p (List.mem_cons_of_mem _ hp))
      exact ⟨by rw [hoth _ (hP p hp)]; exact this.1, this.2⟩
  · obtain ⟨r, rfl⟩ := hr
    obtain rfl : l = l' := Option.some.inj hl'
    exact ⟨r, List.mem_cons_self⟩

/-- A round's end: what the caller owns, packed again. -/
theorem round_end {W0 : World} {S : Nat → Prop} {l : Nat} {bs : List Nat} {o o' : Obj} {P0 : List (Nat × Obj)} (h : Sat (rcx cx W0 S l bs ((l, o) :: P0)) β n H F w) (hown : Owns F) (ho : ∃ r, o' = Obj.loop r) (hP : ∀ p ∈ P0, p.1 ≠ l) (hS : ∀ p ∈ (l, o) :: P0, S p.1) :
    Chg S W0 (w.putObj l o') ∧ (heldF β H F ((l, o') :: P0)).p (w.putObj l o') ∧ (∀ k, (heldF β H F ((l, o') :: P0)).D k → (S k ∨ W0.heap.size ≤ k) ∧ k < (w.putObj l o').heap.size) ∧ Sta β n H F ((l, o') :: P0) := by
  have h' := h.repin (by obtain ⟨r, rfl⟩ := ho; rfl) ho hP (hS _ List.mem_cons_self)
  refine ⟨h'.chg, ⟨h'.blk, h'.fact, fun p hp => (h'.pin p hp).1⟩, fun k hk => ?_, ⟨h.inj, h.ltb, h.sepb, h.sepf, hown, fun p hp => (h'.pin p hp).2⟩⟩
  rcases hk with ⟨b, hb, rfl⟩ | ⟨f, hf, hk⟩ | ⟨p, hp, rfl⟩
  · exact ⟨h'.mine b hb, h'.lt hb⟩
  · exact ⟨h'.fown f hf (hown.mem f hf) k hk, h'.flt f hf k hk⟩
  · refine ⟨.inl ?_, h'.pinLt hp⟩
    rcases List.mem_cons.1 hp with rfl | hp
    · exact hS (l, o) List.mem_cons_self
    · exact hS p (List.mem_cons_of_mem _ hp)

/-- Behind the loop. -/
theorem range_end {β0 β' : Va} {H0 Hn : List Bk} {Gi Ri F0 Fr Fn Fs : List Fact} {w1 w2 : World} {l : Nat} {o o' o2 : Obj} {P0 : List (Nat × Obj)} {mks : List Nat} {n0 : Nat}
    (hs : Sat cx β0 n H0 (Gi ++ (Ri ++ (F0 ++ Fr))) w) (hGi : Owns Gi) (hF0 : Owns F0)
    (hc1 : Chg None_ w w1) (hl : w.heap.size ≤ l) (hP0 : ∀ p ∈ P0, w1.heap[p.1]? = some p.2 ∧ p.2.isCells = false ∧ p.1 ≠ l ∧ (p ∈ β0.pins ∨ w.heap.size ≤ p.1)) (hPb : ∀ p ∈ β0.pins, p ∈ P0)
    (hc2 : Chg (Un (heldF β0 H0 F0 ((l, o) :: P0) :: Gi)) w1 w2) (hm : Mem w2 (heldF β' Hn Fn ((l, o') :: P0) :: Fs))
    (hD : ∀ f ∈ heldF β' Hn Fn ((l, o') :: P0) :: Fs, ∀ k, f.D k → Un (heldF β0 H0 F0 ((l, o) :: P0) :: Gi) k ∨ w1.heap.size ≤ k) (hst : Sta β' n Hn Fn ((l, o') :: P0))
    (hn0 : cx.bs.length ≤ n0) (hag : ∀ i, i < n0 → β' i = β0 i) (hmk : mks.Nodup ∧ ∀ r ∈ mks, (r, Obj.deferred (some [])) ∈ P0 ∧ cx.W0.heap.size ≤ r) (hmr : ∀ l', cx.rnd = some l' → mks = []) :
    Sat cx ⟨β'.b, P0, mks⟩ n Hn (Fs ++ (Fn ++ Fr)) (w2.putObj l o2) := by
  obtain ⟨sG, sRest, cG⟩ := List.pairwise_append.1 hs.sepf
  obtain ⟨_, sRest2, _⟩ := List.pairwise_append.1 sRest
  obtain ⟨sF0, sFr, cF0⟩ := List.pairwise_append.1 sRest2
  have mG : ∀ g ∈ Gi, g ∈ Gi ++ (Ri ++ (F0 ++ Fr)) := fun g hg => by simp [hg]
  have mF0 : ∀ g ∈ F0, g ∈ Gi ++ (Ri ++ (F0 ++ Fr)) := fun g hg => by simp [hg]
  have mFr : ∀ g ∈ Fr, g ∈ Gi ++ (Ri ++ (F0 ++ Fr)) := fun g hg => by simp [hg]
  have hfp := hm.fact _ List.mem_cons_self
  obtain ⟨hfs, hfd⟩ := List.pairwise_cons.1 hm.sepf
  have hoth : ∀ k, k ≠ l → (w2.putObj l o2).heap[k]? = w2.heap[k]? := fun k hk => World.putObj_heap_other hk
  have hsz : w.heap.size ≤ w1.heap.size := hc1.size
  have D1 : ∀ k, Un (heldF β0 H0 F0 ((l, o) :: P0) :: Gi) k → (∃ b ∈ H0, β0 b.id = k) ∨ (∃ g ∈ F0, g.D k) ∨ k = l ∨ (∃ p ∈ P0, p.1 = k) ∨ (∃ g ∈ Gi, g.D k) := by
    rintro k ⟨g, hg, hk⟩
    rcases List.mem_cons.1 hg with rfl | hg
    · rcases hk with q | q | ⟨p, hp, q⟩
      · exact .inl q
      · exact .inr (.inl q)
      · rcases List.mem_cons.1 hp with rfl | hp
        · exact .inr (.inr (.inl q.symm))
        · exact .inr (.inr (.inr (.inl ⟨p, hp, q⟩)))
    · exact .inr (.inr (.inr (.inr ⟨g, hg, hk⟩)))
  have D2 : ∀ k, Un (heldF β0 H0 F0 ((l, o) :: P0) :: Gi) k ∨ w1.heap.size ≤ k → k ≠ l → (∀ p ∈ P0, p.1 ≠ k) → (cx.S k ∨ cx.W0.heap.size ≤ k) ∧ ∀ g ∈ Fr, ¬ g.D k := by
    intro k hk hkl hkp
    rcases hk with hk | hk
    · rcases D1 k hk with ⟨b, hb, rfl⟩ | ⟨g, hg, q⟩ | q | ⟨p, hp, q⟩ | ⟨g, hg, q⟩
      · exact ⟨hs.mine b hb, fun d hd => hs.sepb d (mFr d hd) b hb⟩
      · exact ⟨hs.fown g (mF0 g hg) (hF0.mem g hg) k q, fun d hd => cF0 g hg d hd (.inl (hF0.mem g hg)) k q⟩
      · exact (hkl q).elim
      · exact (hkp p hp q).elim
      · exact ⟨hs.fown g (mG g hg) (hGi.mem g hg) k q, fun d hd => cG g hg d (by simp [hd]) (.inl (hGi.mem g hg)) k q⟩
    · exact ⟨.inr (Nat.le_trans hs.chg.size (Nat.le_trans hsz hk)), fun d hd q => by have := hs.flt d (mFr d hd) k q; omega⟩
  have pinO : ∀ p ∈ ((l, o') :: P0), w2.heap[p.1]? = some p.2 ∧ p.2.isCells = false := fun p hp => ⟨hfp.2.2 p hp, (hst.pinf p hp).1⟩
  have bkNP : ∀ b ∈ Hn, β' b.id ≠ l ∧ ∀ p ∈ P0, p.1 ≠ β' b.id := by
    intro b hb
    have h1 := hfp.1 b hb
    have key : ∀ p ∈ ((l, o') :: P0), p.1 ≠ β' b.id := by
      intro p hp q
      have h2 := pinO p hp
      rw [q, h1] at h2
      have h3 := h2.2
      rw [← Option.some.inj h2.1] at h3
      cases h3
    exact ⟨fun q => key (l, o') List.mem_cons_self q.symm, fun p hp => key p (List.mem_cons_of_mem _ hp)⟩
  have fnNP : ∀ f ∈ Fn, ∀ k, f.D k → k ≠ l ∧ ∀ p ∈ P0, p.1 ≠ k := fun f hf k hk => ⟨fun q => (hst.pinf (l, o') List.mem_cons_self).2 f hf (q ▸ hk), fun p hp q => (hst.pinf p (List.mem_cons_of_mem _ hp)).2 f hf (q ▸ hk)⟩
  have fsNP : ∀ f ∈ Fs, ∀ k, f.D k → k ≠ l ∧ ∀ p ∈ P0, p.1 ≠ k := fun f hf k hk => ⟨fun q => hfs f hf (.inl rfl) k (.inr (.inr ⟨(l, o'), List.mem_cons_self, q.symm⟩)) hk, fun p hp q => hfs f hf (.inl rfl) k (.inr (.inr ⟨p, List.mem_cons_of_mem _ hp, q⟩)) hk⟩
  have bkD : ∀ b ∈ Hn, (cx.S (β' b.id) ∨ cx.W0.heap.size ≤ β' b.id) ∧ ∀ g ∈ Fr, ¬ g.D (β' b.id) := fun b hb => D2 _ (hD _ List.mem_cons_self _ (.inl ⟨b, hb, rfl⟩)) (bkNP b hb).1 (bkNP b hb).2
  have fnD : ∀ f ∈ Fn, ∀ k, f.D k → (cx.S k ∨ cx.W0.heap.size ≤ k) ∧ ∀ g ∈ Fr, ¬ g.D k := fun f hf k hk => D2 _ (hD _ List.mem_cons_self _ (.inr (.inl ⟨f, hf, hk⟩))) (fnNP f hf k hk).1 (fnNP f hf k hk).2
  have fsD : ∀ f ∈ Fs, ∀ k, f.D k → (cx.S k ∨ cx.W0.heap.size ≤ k) ∧ ∀ g ∈ Fr, ¬ g.D k := fun f hf k hk => D2 _ (hD _ (List.mem_cons_of_mem _ hf) _ hk) (fsNP f hf k hk).1 (fsNP f hf k hk).2
  have frl : ∀ g ∈ Fr, ∀ k, g.D k → k < w.heap.size := fun g hg => hs.flt g (mFr g hg)
  have frNU : ∀ g ∈ Fr, ∀ k, g.D k → ¬ Un (heldF β0 H0 F0 ((l, o) :: P0) :: Gi) k := by
    intro g hg k hk q
    by_cases hkl : k = l
    · have := frl g hg k hk; omega
    by_cases hkp : ∀ p ∈ P0, p.1 ≠ k
    · exact (D2 k (.inl q) hkl hkp).2 g hg hk
    · simp only [Classical.not_forall, Decidable.not_not] at hkp
      obtain ⟨p, hp, rfl⟩ := hkp
      rcases (hP0 p hp).2.2.2 with q2 | q2
      · exact (hs.pin p q2).2.2 g (mFr g hg) hk
      · have := frl g hg _ hk; omega
  have cases3 : ∀ f ∈ Fs ++ (Fn ++ Fr), f ∈ Fs ∨ f ∈ Fn ∨ f ∈ Fr := fun f hf => by
    rcases List.mem_append.1 hf with q | q
    · exact .inl q
    · exact .inr (List.mem_append.1 q)
  refine ⟨?_, ⟨hs.fix.1, fun i hi => (hag i (Nat.lt_of_lt_of_le hi hn0)).trans (hs.fix.2 i hi)⟩, fun b hb => ?_, fun b hb => (bkD b hb).1, hst.inj, hst.ltb, fun f hf => ?_, fun f hf k hk => ?_, fun f hf b hb q => ?_, fun f hf ho k hk => ?_, ?_, fun p hp => ⟨?_, (hP0 p hp).2.1, fun f hf q => ?_⟩, hmk,
    ⟨fun p hp => hPb p (hs.rnd.1 p hp), fun l' hl' => ⟨hmr l' hl', by obtain ⟨r, hr⟩ := (hs.rnd.2 l' hl').2; exact ⟨r, hPb _ hr⟩⟩⟩⟩
  · refine ⟨hc2.os.trans (hc1.os.trans hs.chg.os), hc2.tape.trans (hc1.tape.trans hs.chg.tape), hc2.output.trans (hc1.output.trans hs.chg.output), ?_, fun k hk hns => ?_⟩
    · rw [World.putObj_size]; exact Nat.le_trans hs.chg.size (Nat.le_trans hsz hc2.size)
    · have hkw : k < w.heap.size := Nat.lt_of_lt_of_le hk hs.chg.size
      have hkl : k ≠ l := by omega
      rw [hoth k hkl]
      have e1 : w1.heap[k]? = cx.W0.heap[k]? := (hc1.same k hkw (fun q => q)).trans (hs.chg.same k hk hns)
      by_cases hU : Un (heldF β0 H0 F0 ((l, o) :: P0) :: Gi) k
      · by_cases hkp : ∀ p ∈ P0, p.1 ≠ k
        · rcases (D2 k (.inl hU) hkl hkp).1 with q | q
          · exact (hns q).elim
          · omega
        · simp only [Classical.not_forall, Decidable.not_not] at hkp
          obtain ⟨p, hp, rfl⟩ := hkp
          rw [(pinO p (List.mem_cons_of_mem _ hp)).1, ← e1, (hP0 p hp).1]
      · rw [hc2.same k (by omega) hU, e1]
  · rw [hoth _ (bkNP b hb).1]; exact hfp.1 b hb
  · rcases cases3 f hf with hf | hf | hf
    · exact f.st _ _ (fun k hk => hoth k (fsNP f hf k hk).1) (hm.fact f (List.mem_cons_of_mem _ hf))
    · exact f.st _ _ (fun k hk => hoth k (fnNP f hf k hk).1) (hfp.2.1 f hf)
    · refine f.st _ _ (fun k hk => ?_) (hs.fact f (mFr f hf))
      have := frl f hf k hk
      rw [hoth k (by omega), hc2.same k (by omega) (frNU f hf k hk), hc1.same k this (fun q => q)]
  · rw [World.putObj_size]
    rcases cases3 f hf with hf | hf | hf
    · exact hm.flt f (List.mem_cons_of_mem _ hf) k hk
    · exact hm.flt _ List.mem_cons_self k (.inr (.inl ⟨f, hf, hk⟩))
    · exact Nat.lt_of_lt_of_le (frl f hf k hk) (Nat.le_trans hsz hc2.size)
  · rcases cases3 f hf with hf | hf | hf
    · exact hfs f hf (.inl rfl) _ (.inl ⟨b, hb, rfl⟩) q
    · exact hst.sepb f hf b hb q
    · exact (bkD b hb).2 f hf q
  · rcases cases3 f hf with hf | hf | hf
    · exact (fsD f hf k hk).1
    · exact (fnD f hf k hk).1
    · exact hs.fown f (mFr f hf) ho k hk
  · refine List.pairwise_append.2 ⟨hfd, List.pairwise_append.2 ⟨hst.sepf, sFr, fun f hf g hg _ k hk => (fnD f hf k hk).2 g hg⟩, fun f hf g hg ho k hk hk' => ?_⟩
    rcases List.mem_append.1 hg with hg | hg
    · exact hfs f hf (.inl rfl) k (.inr (.inl ⟨g, hg, hk'⟩)) hk
    · exact (fsD f hf k hk).2 g hg hk'
  · rw [hoth _ (hP0 p hp).2.2.1]; exact (pinO p (List.mem_cons_of_mem _ hp)).1
  · rcases cases3 f hf with hf | hf | hf
    · exact (fsNP f hf _ q).2 p hp rfl
    · exact (fnNP f hf _ q).2 p hp rfl
    · rcases (hP0 p hp).2.2.2 with q2 | q2
      · exact (hs.pin p q2).2.2 f (mFr f hf) q
      · have := frl f hf _ q; omega

theorem SL.val_eqb {β β' : Va} (h : β.b = β'.b) (x : SL) : x.val β = x.val β' := by
  cases x with
  | v x => rfl
  | p id o => simp only [SL.val, h]
theorem SV.val_eqb {β β' : Va} (h : β.b = β'.b) (s : SV) : s.val β = s.val β' := by
  have : SL.val β = SL.val β' := funext (SL.val_eqb h)
  cases s <;> simp only [SV.val, this]

theorem callable_run {P : Program} {k : FuncId} (hcall : callable P k = true) (args : Array Value) (w : World) : (callFunc k args).run P w = .ok (.enter k args) w := by
  unfold callable at hcall
  cases hq : P.funcs[k]? with
  | none => rw [hq] at hcall; cases hcall
  | some fn =>
    rw [hq] at hcall
    simp only [Bool.and_eq_true, Bool.not_eq_true'] at hcall
    obtain ⟨hb, hn⟩ := hcall
    have hn' : ¬ fn.name = "runtime.NumGoroutine" := by simpa using hn
    have hb' : ¬ fn.body = none := by intro q; rw [q] at hb; cases hb
    simp [callFunc, hq, hn', hb']

/-- The loop is entered. -/
theorem enter_loop (h : Sat cx β n H F w) (fn : FuncId) (tmps : Array Value) (ps : Array Tmp) (assign body : Code) :
    ∃ (l : Nat) (mk : List Nat) (w1 : World) (d : Nat) (newp : List (Nat × Obj)), (Instr.enterLoop fn tmps ps assign body cx.rnd).run cx.P w = .ok (l, mk.map (fun r => { target := .collected r, args := #[] })) w1 ∧ Chg None_ w w1 ∧ w.heap.size ≤ l ∧
      w1.heap[l]? = some (.loop { state := .ready, pending := none, fn, tmps, params := ps, assign, body, defers := d }) ∧ (∀ p ∈ newp, w1.heap[p.1]? = some p.2 ∧ p.2.isCells = false ∧ p.1 ≠ l ∧ w.heap.size ≤ p.1) ∧
      mk.Nodup ∧ (∀ r ∈ mk, (r, Obj.deferred (some [])) ∈ newp ∧ w.heap.size ≤ r) ∧ (∀ l', cx.rnd = some l' → mk = []) := by
  cases hr : cx.rnd with
  | none =>
    refine ⟨w.heap.size + 1, [w.heap.size], _, w.heap.size, [(w.heap.size, .deferred (some []))], run_enterLoop_outer fn tmps ps assign body, ?_, by omega, ?_, fun p hp => ?_, by simp, fun r hr' => ?_, fun l' hl' => by cases hl'⟩
    · exact Chg.trans (S := None_) (T := None_) (U := None_) (Chg.alloc w _) (Chg.alloc _ _) (fun _ _ q => q) (fun _ _ q => q)
    · have := World.alloc_heap_new (w.alloc (.deferred (some []))) (.loop { state := .ready, pending := none, fn, tmps, params := ps, assign, body, defers := w.heap.size }); rwa [World.size_alloc] at this
    · obtain rfl := List.mem_singleton.1 hp
      exact ⟨(RowKit.Below.heap_alloc _ _ _ (by simp)).trans (World.alloc_heap_new w _), rfl, by simp, Nat.le_refl _⟩
    · obtain rfl := List.mem_singleton.1 hr'
      exact ⟨List.mem_singleton.2 rfl, Nat.le_refl _⟩
  | some l0 =>
    obtain ⟨r0, hr0⟩ := (h.rnd.2 l0 hr).2
    refine ⟨w.heap.size, [], _, r0.defers, [], run_enterLoop_inner (h.pin _ hr0).1 fn tmps ps assign body, Chg.alloc w _, Nat.le_refl _, World.alloc_heap_new w _, (fun p hp => by cases hp), List.nodup_nil, (fun r hr' => by cases hr'), fun _ _ => rfl⟩

def RoundQ {α ι κ : Type} (cx : Cx) (n' : Nat) (Pre : List α → ι → Prop) (HH : ι → List Bk) (FF : ι → List Fact) (Stp : Exit → List α → κ → Prop) (HX : κ → List Bk) (FX : κ → List Fact) (pre : List α) : Exit → KT
  | .normal => fun m env H F => ∃ j, Pre pre j ∧ Ent cx m env H F n' [] (HH j) (FF j)
  | .ret => fun m env H F => ∃ j, Stp .ret pre j ∧ Ent cx m env H F n' [] (HX j) (FX j)
  | .exit id => fun m env H F => ∃ j, Stp (.exit id) pre j ∧ Ent cx m env H F n' [] (HX j) (FX j)
  | _ => fun _ _ _ _ => False

theorem range_rule {α ι κ : Type} (g : Good cx) {fo : Operand} {ps : Array Tmp} {assign body : Code} {Q : Exit → KT} {k : FuncId} {cv : List Value} {sv : SV}
    (hsv : ev env fo = some sv) (hfn : fnOf sv = some (k, [], cv.map SL.v)) (hcall : callable cx.P k = true) (n' : Nat) (hn' : n ≤ n')
    (Pre : List α → ι → Prop) (HH : ι → List Bk) (FF : ι → List Fact) (hFF : ∀ i, Owns (FF i))
    (Stp : Exit → List α → κ → Prop) (HX : κ → List Bk) (FX : κ → List Fact) (hFX : ∀ j, Owns (FX j))
    (Gi Ri Fr : List Fact) (hGi : Owns Gi) (hFr : ∀ g ∈ Fr, g.own = false)
    (i0 : ι) (h0 : Pre [] i0) (hent : ∀ β w, Sat cx β n H F w → ∃ β', Agr n β β' ∧ Sat cx β' n' (HH i0) (Gi ++ (Ri ++ (FF i0 ++ Fr))) w)
    (ins : α → Array Value → Fact → Prop) (Done Stopd : List α → List Fact → Prop)
    (hit : ∀ (l : Nat) (w : World) (f0 R : Fact) (J Jx : List α → Fact → Prop), J [] f0 → (∀ pre f, J pre f → f.own = true) → R.own = false → Yc cx.P l J Jx R ins → Mem w (f0 :: R :: (Gi ++ Ri)) →
      Con cx.P k (#[Value.func (.yield l) #[] #[]] ++ cv.toArray) w (f0 :: Gi) (fun _ Fs => ∃ f Fs', Fs = f :: Fs' ∧ ((∃ xs, J xs f ∧ Done xs Fs') ∨ (∃ pre, Jx pre f ∧ Stopd pre Fs'))))
    (hround : ∀ (i : ι) (pre : List α) (x : α) (args : Array Value) (X : Fact) (W : World) (S : Nat → Prop) (l : Nat) (bs : List Nat) (pn pn' : List (Nat × Obj)), bs.length ≤ n' → Pre pre i → ins x args X → ∃ er, bindP cx.N ps.toList args.toList env = some er ∧
      cwp (rcx cx W S l bs pn) assign (norm (cwp (rcx cx W S l bs pn') body (RoundQ (rcx cx W S l bs pn') n' Pre HH FF Stp HX FX (pre ++ [x])))) n' er (HH i) (X :: FF i ++ Fr))
    (hdone : ∀ xs i Fs, Pre xs i → Done xs Fs → Q .normal n' env (HH i) (Fs ++ (FF i ++ Fr)))
    (hstop : ∀ e pre j Fs, Stp e pre j → Stopd pre Fs → Q e n' env (HX j) (Fs ++ (FX j ++ Fr))) :
    Tri cx (.rangeFunc fo ps assign body) Q n env H F := by
  refine ⟨fun β a w hi => ?_⟩
  obtain ⟨β0, hag0, hs0⟩ := hent β w hi.sat
  obtain ⟨hev, _⟩ := hi.ev hsv
  have hval : a.eval fo = .func (.func k) #[] cv.toArray := by
    rw [hev]
    unfold fnOf at hfn
    split at hfn
    · simp only [Option.some.injEq, Prod.mk.injEq, List.map_eq_nil_iff, Array.toList_eq_nil_iff] at hfn
      obtain ⟨rfl, rfl, h3⟩ := hfn
      have : _ = cv := (List.map_inj_right (f := SL.v) (fun x y q => by injection q)).1 h3
      simp only [SV.val, SL.val, ← this]
    · simp only [Option.some.injEq, Prod.mk.injEq] at hfn
      obtain ⟨rfl, rfl, rfl⟩ := hfn
      simp [SV.val, SL.val, Function.comp_def]
    · cases hfn
  refine wpIn_rangeFunc fun fn _ => ?_
  rw [cx.fence_round]
  obtain ⟨l, mk, w1, dd, newp, hrun, hc1, hll, hrec, hnewp, hmk1, hmk2, hmk3⟩ := enter_loop hs0 fn a.tmps ps assign body
  obtain ⟨rec, hrecD⟩ : ∃ rec : LoopState → Option Code → Loop, rec = fun st pe => { state := st, pending := pe, fn, tmps := a.tmps, params := ps, assign, body, defers := dd } := ⟨_, rfl⟩
  have hrec' : w1.heap[l]? = some (.loop (rec .ready none)) := by rw [hrecD]; exact hrec
  obtain ⟨P0, hP0D⟩ : ∃ P0, P0 = newp ++ β0.pins := ⟨_, rfl⟩
  have hP0 : ∀ p ∈ P0, w1.heap[p.1]? = some p.2 ∧ p.2.isCells = false ∧ p.1 ≠ l ∧ (p ∈ β0.pins ∨ w.heap.size ≤ p.1) := by
    intro p hp
    rw [hP0D] at hp
    rcases List.mem_append.1 hp with hp | hp
    · exact ⟨(hnewp p hp).1, (hnewp p hp).2.1, (hnewp p hp).2.2.1, .inr (hnewp p hp).2.2.2⟩
    · have := hs0.pinLt hp
      exact ⟨by rw [hc1.same _ this (fun q => q)]; exact (hs0.pin p hp).1, (hs0.pin p hp).2.1, by omega, .inl hp⟩
  have hPb : ∀ p ∈ β0.pins, p ∈ P0 := fun p hp => by rw [hP0D]; exact List.mem_append_right _ hp
  have hPl : ∀ p ∈ P0, p.1 ≠ l := fun p hp => (hP0 p hp).2.2.1
  -- what the rounds own, at each of their ends
  let J : List α → Fact → Prop := fun pre f => ∃ (i : ι) (β' : Va), Pre pre i ∧ (∀ q, q < n → β' q = β0 q) ∧ Sta β' n' (HH i) (FF i) ((l, .loop (rec .ready none)) :: P0) ∧ f = heldF β' (HH i) (FF i) ((l, .loop (rec .ready none)) :: P0)
  let Jx : List α → Fact → Prop := fun pre f => ∃ (e : Exit) (c : Code) (j : κ) (β' : Va), jumpOf e = some c ∧ Stp e pre j ∧ (∀ q, q < n → β' q = β0 q) ∧ Sta β' n' (HX j) (FX j) ((l, .loop (rec .done (some c))) :: P0) ∧ f = heldF β' (HX j) (FX j) ((l, .loop (rec .done (some c))) :: P0)
  have mF0 : ∀ f ∈ FF i0, f ∈ Gi ++ (Ri ++ (FF i0 ++ Fr)) := fun f hf => by simp [hf]
  have mFr : ∀ f ∈ Fr, f ∈ Gi ++ (Ri ++ (FF i0 ++ Fr)) := fun f hf => by simp [hf]
  have mGR : ∀ f ∈ Gi ++ Ri, f ∈ Gi ++ (Ri ++ (FF i0 ++ Fr)) := fun f hf => by rcases List.mem_append.1 hf with q | q <;> simp [q]
  have hsz : w.heap.size ≤ w1.heap.size := hc1.size
  have hpinf : ∀ f ∈ Gi ++ (Ri ++ (FF i0 ++ Fr)), ∀ p ∈ ((l, Obj.loop (rec .ready none)) :: P0), ¬ f.D p.1 := by
    intro f hf p hp q
    rcases List.mem_cons.1 hp with rfl | hp
    · have := hs0.flt f hf l q; omega
    · rcases (hP0 p hp).2.2.2 with q2 | q2
      · exact (hs0.pin p q2).2.2 f hf q
      · have := hs0.flt f hf _ q; omega
  have hsta0 : Sta β0 n' (HH i0) (FF i0) ((l, .loop (rec .ready none)) :: P0) := by
    refine ⟨hs0.inj, hs0.ltb, fun f hf => hs0.sepb f (mF0 f hf), ?_, hFF i0, fun p hp => ⟨?_, fun f hf => hpinf f (mF0 f hf) p hp⟩⟩
    · exact (List.pairwise_append.1 (List.pairwise_append.1 (List.pairwise_append.1 hs0.sepf).2.1).2.1).1
    · rcases List.mem_cons.1 hp with rfl | hp
      · rfl
      · exact (hP0 p hp).2.1
  have hsat1 := hs0.same hc1
  have hmem1 : Mem w1 (heldF β0 (HH i0) (FF i0) ((l, .loop (rec .ready none)) :: P0) :: readF Fr :: (Gi ++ Ri)) := by
    obtain ⟨sG, sRest, cG⟩ := List.pairwise_append.1 hs0.sepf
    obtain ⟨sR, sRest2, cR⟩ := List.pairwise_append.1 sRest
    obtain ⟨_, _, cF0⟩ := List.pairwise_append.1 sRest2
    have dsep : ∀ d ∈ Gi ++ (Ri ++ Fr), ∀ q, (heldF β0 (HH i0) (FF i0) ((l, .loop (rec .ready none)) :: P0)).D q → ¬ d.D q := by
      intro d hd q hq hdq
      have hdm : d ∈ Gi ++ (Ri ++ (FF i0 ++ Fr)) := by
        rcases List.mem_append.1 hd with x | x
        · simp [x]
        · rcases List.mem_append.1 x with x | x <;> simp [x]
      rcases hq with ⟨b, hb, rfl⟩ | ⟨f, hf, hk⟩ | ⟨p, hp, rfl⟩
      · exact hs0.sepb d hdm b hb hdq
      · rcases List.mem_append.1 hd with x | x
        · exact cG d x f (by simp [hf]) (.inr ((hFF i0).mem f hf)) q hdq hk
        · rcases List.mem_append.1 x with x | x
          · exact cR d x f (by simp [hf]) (.inr ((hFF i0).mem f hf)) q hdq hk
          · exact cF0 f hf d x (.inl ((hFF i0).mem f hf)) q hk hdq
      · exact hpinf d hdm p hp hdq
    refine ⟨fun f hf => ?_, fun f hf q hq => ?_, List.pairwise_cons.2 ⟨fun d hd _ q hq => ?_, List.pairwise_cons.2 ⟨fun d hd ho q hq hdq => ?_, ?_⟩⟩⟩
    · rcases List.mem_cons.1 hf with rfl | hf
      · refine ⟨hsat1.blk, fun f hf => hsat1.fact f (mF0 f hf), fun p hp => ?_⟩
        rcases List.mem_cons.1 hp with rfl | hp
        · exact hrec'
        · exact (hP0 p hp).1
      · rcases List.mem_cons.1 hf with rfl | hf
        · exact fun f hf => hsat1.fact f (mFr f hf)
        · exact hsat1.fact f (mGR f hf)
    · rcases List.mem_cons.1 hf with rfl | hf
      · rcases hq with ⟨b, hb, rfl⟩ | ⟨f, hf, hk⟩ | ⟨p, hp, rfl⟩
        · exact hsat1.lt hb
        · exact hsat1.flt f (mF0 f hf) q hk
        · rcases List.mem_cons.1 hp with rfl | hp
          · exact (Array.getElem?_eq_some_iff.1 hrec').1
          · exact (Array.getElem?_eq_some_iff.1 (hP0 p hp).1).1
      · rcases List.mem_cons.1 hf with rfl | hf
        · obtain ⟨f, hf, hk⟩ := hq; exact hsat1.flt f (mFr f hf) q hk
        · exact hsat1.flt f (mGR f hf) q hq
    · rcases List.mem_cons.1 hd with rfl | hd
      · rintro ⟨d', hd', hk⟩
        exact dsep d' (by simp [hd']) q hq hk
      · refine dsep d ?_ q hq
        rcases List.mem_append.1 hd with x | x <;> simp [x]
    · obtain ⟨d', hd', hk⟩ := hq
      have hdo : d.own = true := ho.resolve_left (by simp [readF])
      rcases List.mem_append.1 hd with x | x
      · exact cG d x d' (by simp [hd']) (.inl hdo) q hdq hk
      · exact cR d x d' (by simp [hd']) (.inl hdo) q hdq hk
    · refine List.pairwise_append.2 ⟨sG, sR, fun f hf d hd => cG f hf d (by simp [hd])⟩
  -- one round
  have hY : Yc cx.P l J Jx (readF Fr) ins := by
    rintro pre x f wy args X ⟨i, β', hpre, hagb, hsta, rfl⟩ hm hx
    obtain ⟨hf1, _, _, hf4, _⟩ := hm.three rfl rfl
    have hlrec := hf1.2.2 _ List.mem_cons_self
    simp only at hlrec
    have hps' := hround i pre x args X wy (Un (heldF β' (HH i) (FF i) ((l, .loop (rec .ready none)) :: P0) :: gv X)) l ((List.range n).map β0) ((l, .loop (rec .ready none)) :: P0) ((l, .loop (rec .busy none)) :: P0) (by simpa using hn') hpre hx
    obtain ⟨er, hbind, hcwp⟩ := hps'
    have hszt : a.tmps.size = cx.N := hi.size
    have hagA : ∀ t s, get env t = some s → a.tmps[t]? = some (s.val (⟨β'.b, ((l, .loop (rec .ready none)) :: P0), []⟩ : Va)) := by
      intro t s ht
      rw [hi.ag t s ht]
      congr 1
      have h1 : s.val β0 = s.val β := SV.val_congr hag0 (hi.lte t s ht)
      have h2 : s.val (⟨β'.b, ((l, .loop (rec .ready none)) :: P0), []⟩ : Va) = s.val (⟨β0.b, ((l, .loop (rec .ready none)) :: P0), []⟩ : Va) := SV.val_congr (n := n) (β := (⟨β0.b, ((l, .loop (rec .ready none)) :: P0), []⟩ : Va)) (β' := (⟨β'.b, ((l, .loop (rec .ready none)) :: P0), []⟩ : Va)) ⟨rfl, rfl, hagb⟩ (hi.lte t s ht)
      have h3 : s.val (⟨β0.b, ((l, .loop (rec .ready none)) :: P0), []⟩ : Va) = s.val β0 := SV.val_eqb rfl s
      rw [← h1, ← h3, ← h2]
    have hb4 := bindP_ag (n := n') ps.toList args.toList env er a.tmps hbind hszt hagA (fun t s ht => SV.lt_mono hn' (hi.lte t s ht))
    have hasz : args.size = ps.size := by have := hb4.2.2.2; simpa using this.symm
    refine ⟨fn, (ps.zip args).foldl (fun tmps (t, v) => tmps.setIfInBounds t v) a.tmps, assign, body, ?_, ?_⟩
    · have := run_yield (P := cx.P) (args := args) hlrec (by rw [hrecD]; exact hasz)
      rw [hrecD] at this
      exact this
    · have hfence : ∀ pn, (rcx cx wy (Un (heldF β' (HH i) (FF i) ((l, .loop (rec .ready none)) :: P0) :: gv X)) l ((List.range n).map β0) pn).fence = Fence.wide.inRound l := fun _ => rfl
      refine roundIn_of_wpIn trivial ?_
      have hsat : Sat (rcx cx wy (Un (heldF β' (HH i) (FF i) ((l, .loop (rec .ready none)) :: P0) :: gv X)) l ((List.range n).map β0) ((l, .loop (rec .ready none)) :: P0)) ⟨β'.b, ((l, .loop (rec .ready none)) :: P0), []⟩ n' (HH i) (X :: FF i ++ Fr) wy :=
        round_sat (β := ⟨β'.b, ((l, .loop (rec .ready none)) :: P0), []⟩) ⟨hsta.inj, hsta.ltb, hsta.sepb, hsta.sepf, hsta.own, hsta.pinf⟩ hFr hm hn' (by simp) (fun q hq => by simp [hq, hagb q hq]) List.mem_cons_self rfl rfl
      have hw1 := (cwp_sound (rcx_good g) _ _ _ _ _ _ hcwp).run ⟨β'.b, ((l, .loop (rec .ready none)) :: P0), []⟩ { tmps := (ps.toList.zip args.toList).foldl (fun t (q : Tmp × Value) => t.setIfInBounds q.1 q.2) a.tmps, defers := [] } wy ⟨hb4.2.1, hb4.1, rfl, hb4.2.2.1, hsat⟩
      rw [hfence] at hw1
      have htmp : (ps.zip args).foldl (fun tmps (t, v) => tmps.setIfInBounds t v) a.tmps = (ps.toList.zip args.toList).foldl (fun t (q : Tmp × Value) => t.setIfInBounds q.1 q.2) a.tmps := by
        rw [← Array.foldl_toList, Array.toList_zip]
      rw [htmp]
      refine wpIn_mono hw1 fun e a1 wa hq => ?_
      cases e with
      | normal =>
        obtain ⟨β1, n1, env1, H1, F1, hi1, hq1⟩ := hq
        have hl1 := (hi1.sat.pin _ (hi1.sat.rnd.1 _ List.mem_cons_self)).1
        simp only at hl1
        refine ⟨_, run_beginRound hl1 (by rw [hrecD]), ?_⟩
        have hSl : Un (heldF β' (HH i) (FF i) ((l, .loop (rec .ready none)) :: P0) :: gv X) l := ⟨_, List.mem_cons_self, .inr (.inr ⟨_, List.mem_cons_self, rfl⟩)⟩
        have hs2 := hi1.sat.repin (o' := .loop (rec .busy none)) rfl ⟨_, rfl⟩ hPl hSl
        have hi2 : Inv (rcx cx wy (Un (heldF β' (HH i) (FF i) ((l, .loop (rec .ready none)) :: P0) :: gv X)) l ((List.range n).map β0) ((l, .loop (rec .busy none)) :: P0)) ⟨β1.b, ((l, .loop (rec .busy none)) :: P0), []⟩ n1 env1 H1 F1 a1 (wa.putObj l (.loop (rec .busy none))) := by
          refine ⟨fun t s ht => ?_, hi1.size, ?_, hi1.lte, hs2⟩
          · rw [hi1.ag t s ht]
            congr 1
          · have := hi1.df
            rw [(hi1.sat.rnd.2 l rfl).1] at this
            exact this
        have hrb : ({ rec .ready none with state := .busy } : Loop) = rec .busy none := by rw [hrecD]
        rw [hrb]
        have hw2 := (cwp_sound (rcx_good g) _ _ _ _ _ _ hq1).run _ _ _ hi2
        rw [hfence] at hw2
        refine wpIn_mono hw2 fun e2 a2 wb hq2 => ?_
        have hSp : ∀ p ∈ (l, Obj.loop (rec .busy none)) :: P0, Un (heldF β' (HH i) (FF i) ((l, .loop (rec .ready none)) :: P0) :: gv X) p.1 := by
          intro p hp
          rcases List.mem_cons.1 hp with rfl | hp
          · exact hSl
          · exact ⟨_, List.mem_cons_self, .inr (.inr ⟨p, List.mem_cons_of_mem _ hp, rfl⟩)⟩
        have stopx : ∀ (e : Exit) (c : Code), jumpOf e = some c → After (rcx cx wy (Un (heldF β' (HH i) (FF i) ((l, .loop (rec .ready none)) :: P0) :: gv X)) l ((List.range n).map β0) ((l, .loop (rec .busy none)) :: P0)) (fun m env H F => ∃ j, Stp e (pre ++ [x]) j ∧ Ent (rcx cx wy (Un (heldF β' (HH i) (FF i) ((l, .loop (rec .ready none)) :: P0) :: gv X)) l ((List.range n).map β0) ((l, .loop (rec .busy none)) :: P0)) m env H F n' [] (HX j) (FX j)) a2 wb →
            ∃ v w4, (Instr.endRound l (some c)).run cx.P wb = .ok v w4 ∧ ∃ u, Ending.returned v = .returned u ∧ ∃ f', Chg (Un (heldF β' (HH i) (FF i) ((l, .loop (rec .ready none)) :: P0) :: gv X)) wy w4 ∧ f'.own = true ∧ f'.p w4 ∧ (∀ k, f'.D k → (Un (heldF β' (HH i) (FF i) ((l, .loop (rec .ready none)) :: P0) :: gv X) k ∨ wy.heap.size ≤ k) ∧ k < w4.heap.size) ∧ ((u = .bool true ∧ J (pre ++ [x]) f') ∨ (u = .bool false ∧ Jx (pre ++ [x]) f')) := by
          rintro e c hc ⟨β2, n2, env2, H2, F2, hi3, j, hst, hentj⟩
          obtain ⟨β3, _, _, hi4⟩ := hentj.run β2 a2 wb hi3
          have hl3 := (hi4.sat.pin _ (hi4.sat.rnd.1 _ List.mem_cons_self)).1
          simp only at hl3
          have her := run_endRound (P := cx.P) (some c) hl3
          simp only [Option.isNone_some, Bool.false_eq_true, if_false] at her
          have hrd : ({ rec .busy none with state := .done, pending := some c } : Loop) = rec .done (some c) := by rw [hrecD]
          rw [hrd] at her
          obtain ⟨q1, q2, q3, q4⟩ := round_end hi4.sat (hFX j) (o' := .loop (rec .done (some c))) ⟨_, rfl⟩ hPl hSp
          refine ⟨_, _, her, _, rfl, _, q1, rfl, q2, q3, .inr ⟨rfl, e, c, j, β3, hc, hst, fun q hq => ?_, q4, rfl⟩⟩
          have := hi4.sat.fix.2 q (by simpa [rcx] using hq)
          rw [this]
          simp [rcx, hq]
        cases e2 with
        | normal =>
          obtain ⟨β2, n2, env2, H2, F2, hi3, j, hst, hentj⟩ := hq2
          obtain ⟨β3, _, _, hi4⟩ := hentj.run β2 a2 wb hi3
          have hl3 := (hi4.sat.pin _ (hi4.sat.rnd.1 _ List.mem_cons_self)).1
          simp only at hl3
          have her := run_endRound (P := cx.P) none hl3
          simp only [Option.isNone_none, if_true] at her
          have hrd : ({ rec .busy none with state := .ready, pending := none } : Loop) = rec .ready none := by rw [hrecD]
          rw [hrd] at her
          obtain ⟨q1, q2, q3, q4⟩ := round_end hi4.sat (hFF j) (o' := .loop (rec .ready none)) ⟨_, rfl⟩ hPl hSp
          refine ⟨_, _, her, _, rfl, _, q1, rfl, q2, q3, .inl ⟨rfl, j, β3, hst, fun q hq => ?_, q4, rfl⟩⟩
          have := hi4.sat.fix.2 q (by simpa [rcx] using hq)
          rw [this]
          simp [rcx, hq]
        | ret => exact stopx .ret .ret rfl hq2
        | exit id => exact stopx (.exit id) (.exit id) rfl hq2
        | goto t => obtain ⟨_, _, _, _, _, _, q⟩ := hq2; exact q.elim
        | panic c => exact hq2.elim
        | outgrown => exact hq2.elim
      | ret => obtain ⟨_, _, _, _, _, _, q⟩ := hq; exact q.elim
      | exit id => obtain ⟨_, _, _, _, _, _, q⟩ := hq; exact q.elim
      | goto t => obtain ⟨_, _, _, _, _, _, q⟩ := hq; exact q.elim
      | panic c => exact hq.elim
      | outgrown => exact hq.elim
  have hcon := hit l w1 _ (readF Fr) J Jx ⟨i0, β0, h0, fun _ _ => rfl, hsta0, rfl⟩ (fun pre f ⟨_, _, _, _, _, e⟩ => by rw [e]; rfl) rfl hY hmem1
  refine ⟨l, _, w1, { target := .fn (.func k) cv.toArray, args := #[.func (.yield l) #[] #[]] }, w1, k, #[.func (.yield l) #[] #[]] ++ cv.toArray, w1, hrun, ?_, fun f' _ => cx.fence_fn f', ?_, fun q => (by rw [cx.fence_depth] at q; cases q), ?_⟩
  · simp only [resolve, hval]
    simp [go_sem]
  · simp [invoke, go_sem, callable_run hcall]
  · refine CallsIn.mono (callsIn_fence cx (callsIn_wide (n := 0 - 1).2 hcon)) fun e w2 hq => ?_
    obtain ⟨v, rfl, Fs, ⟨f, Fs', rfl, hJ⟩, hch, hm2, hown2, hD2⟩ := hq
    have hmks : (mk ++ β0.marks).Nodup ∧ ∀ r ∈ mk ++ β0.marks, (r, Obj.deferred (some [])) ∈ P0 ∧ cx.W0.heap.size ≤ r := by
      refine ⟨List.nodup_append.2 ⟨hmk1, hs0.mrk.1, fun r hr r' hr' q => ?_⟩, fun r hr => ?_⟩
      · subst q
        have h1 := (hmk2 r hr).2
        have h2 := hs0.pinLt (hs0.mrk.2 r hr').1
        simp only at h2
        omega
      · rcases List.mem_append.1 hr with hr | hr
        · exact ⟨by rw [hP0D]; exact List.mem_append_left _ (hmk2 r hr).1, Nat.le_trans hs0.chg.size (hmk2 r hr).2⟩
        · exact ⟨hPb _ (hs0.mrk.2 r hr).1, (hs0.mrk.2 r hr).2⟩
    have hmr : ∀ l', cx.rnd = some l' → mk ++ β0.marks = [] := fun l' hl' => by rw [hmk3 l' hl', (hs0.rnd.2 l' hl').1]; rfl
    have hbsn : cx.bs.length ≤ n := hi.sat.fix.1
    have fin : ∀ (β' : Va) (Hn : List Bk) (Fn : List Fact) (w4 : World) (K : KT), (∀ q, q < n → β' q = β0 q) → Sat cx ⟨β'.b, P0, mk ++ β0.marks⟩ n' Hn (Fs' ++ (Fn ++ Fr)) w4 → K n' env Hn (Fs' ++ (Fn ++ Fr)) →
        After cx K { a with defers := mk.map (fun r => { target := .collected r, args := #[] }) ++ a.defers } w4 := by
      intro β' Hn Fn w4 K hagb hsat hK
      refine ⟨_, n', env, Hn, _, ⟨fun t s ht => ?_, hi.size, ?_, fun t s ht => SV.lt_mono hn' (hi.lte t s ht), hsat⟩, hK⟩
      · show a.tmps[t]? = _
        rw [hi.ag t s ht]
        congr 1
        have key : ∀ y : SL, y.lt n → y.val (⟨β'.b, P0, mk ++ β0.marks⟩ : Va) = y.val β := fun y hy => by
          cases y with
          | v x => rfl
          | p id o => simp only [SL.val]; rw [← hag0.at_ id hy]; exact congrArg (fun z => Value.pointer (some ⟨z, o, none⟩)) (hagb id hy)
        have hlt := hi.lte t s ht
        cases s with
        | c x => exact (key x hlt).symm
        | agg xs => simp only [SV.val]; congr 2; exact List.map_congr_left fun x hx => (key x (hlt x hx)).symm
        | fn f u v => simp only [SV.val]; congr 2 <;> exact List.map_congr_left fun x hx => (key x (by first | exact hlt.1 x hx | exact hlt.2 x hx)).symm
      · show _ ++ a.defers = _
        rw [hi.df, ← hag0.marks, List.map_append]
    rcases hJ with ⟨xs, ⟨i, β', hpre, hagb, hsta, rfl⟩, hdn⟩ | ⟨pre, ⟨e, c, j, β', hc, hst, hagb, hsta, rfl⟩, hsd⟩
    · have hl2 := (hm2.fact _ List.mem_cons_self).2.2 _ List.mem_cons_self
      simp only at hl2
      have hel := run_endLoop (P := cx.P) hl2 (by rw [hrecD]; simp)
      have hpd : (rec .ready none).pending = none := by rw [hrecD]
      rw [hpd] at hel
      exact ⟨none, _, hel, fin β' (HH i) (FF i) _ _ hagb (range_end hs0 hGi (hFF i0) hc1 hll hP0 hPb hch hm2 hD2 hsta hbsn hagb hmks hmr) (hdone xs i Fs' hpre hdn)⟩
    · have hl2 := (hm2.fact _ List.mem_cons_self).2.2 _ List.mem_cons_self
      simp only at hl2
      have hel := run_endLoop (P := cx.P) hl2 (by rw [hrecD]; simp)
      have hpd : (rec .done (some c)).pending = some c := by rw [hrecD]
      rw [hpd] at hel
      refine ⟨some c, _, hel, ?_⟩
      have hA := fin β' (HX j) (FX j) _ (Q e) hagb (range_end (o2 := .loop { rec .done (some c) with state := .exhausted, pending := some c }) hs0 hGi (hFF i0) hc1 hll hP0 hPb hch hm2 hD2 hsta hbsn hagb hmks hmr) (hstop e pre j Fs' hst hsd)
      cases e <;> simp only [jumpOf, Option.some.injEq, reduceCtorEq] at hc
      · subst hc; exact wpIn_exit hA
      · subst hc; exact wpIn_ret hA
end
#print axioms range_rule
end Go.Proofs.YthkjfepbmnabkaaDoor.Sx
