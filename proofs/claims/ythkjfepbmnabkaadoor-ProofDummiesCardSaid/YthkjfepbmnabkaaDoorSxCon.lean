/- Contracts in one form; facts bundled and unbundled. -/
import Derived.Test.YthkjfepbmnabkaaDoorSxUse
namespace Go.Proofs.YthkjfepbmnabkaaDoor.Sx
open Go

def Un (Gs : List Fact) : Nat → Prop := fun k => ∃ g ∈ Gs, g.D k
structure Mem (w : World) (F : List Fact) : Prop where
  fact : ∀ f ∈ F, f.p w
  flt : ∀ f ∈ F, ∀ k, f.D k → k < w.heap.size
  sepf : F.Pairwise (fun f g => f.own = true ∨ g.own = true → ∀ k, f.D k → ¬ g.D k)
def Owns : List Fact → Prop
  | [] => True
  | f :: r => f.own = true ∧ Owns r
theorem Owns.mem : ∀ {l : List Fact}, Owns l → ∀ f ∈ l, f.own = true
  | _ :: _, h, g, hg => by
    rcases List.mem_cons.1 hg with rfl | hg
    · exact h.1
    · exact Owns.mem h.2 g hg
def takeIx (F : List Fact) : List Nat → List Fact
  | [] => []
  | j :: r => match nth F j with | some f => f :: takeIx F r | none => []
def dropIx (js : List Nat) : Nat → List Fact → List Fact
  | _, [] => []
  | i, f :: r => match memb js i with | true => dropIx js (i + 1) r | false => f :: dropIx js (i + 1) r
def nodupB : List Nat → Bool
  | [] => true
  | j :: r => match memb r j with | true => false | false => nodupB r
theorem memb_not {l : List Nat} {y : Nat} (h : memb l y = false) : y ∉ l := by
  induction l with
  | nil => exact List.not_mem_nil
  | cons x r ih =>
    simp only [memb] at h
    cases hb : Nat.beq x y with
    | true => rw [hb] at h; cases h
    | false =>
      rw [hb] at h
      intro q
      rcases List.mem_cons.1 q with rfl | q
      · rw [Nat.beq_refl] at hb; cases hb
      · exact ih h q
theorem takeIx_mem {F : List Fact} : ∀ {js : List Nat} {g : Fact}, g ∈ takeIx F js → ∃ j ∈ js, F[j]? = some g
  | j :: r, g, h => by
    simp only [takeIx] at h
    split at h
    · rename_i f hf
      rw [nth_eq] at hf
      rcases List.mem_cons.1 h with rfl | h
      · exact ⟨j, List.mem_cons_self, hf⟩
      · obtain ⟨i, hi, q⟩ := takeIx_mem h
        exact ⟨i, List.mem_cons_of_mem _ hi, q⟩
    · cases h
theorem dropIx_mem {js : List Nat} : ∀ {F : List Fact} {i : Nat} {g : Fact}, g ∈ dropIx js i F → ∃ k, F[k]? = some g ∧ (i + k) ∉ js
  | f :: r, i, g, h => by
    simp only [dropIx] at h
    cases hb : memb js i with
    | true =>
      rw [hb] at h
      obtain ⟨k, h1, h2⟩ := dropIx_mem h
      exact ⟨k + 1, by simpa using h1, by rw [Nat.add_comm k 1, ← Nat.add_assoc]; exact h2⟩
    | false =>
      rw [hb] at h
      rcases List.mem_cons.1 h with rfl | h
      · exact ⟨0, rfl, memb_not hb⟩
      · obtain ⟨k, h1, h2⟩ := dropIx_mem h
        exact ⟨k + 1, by simpa using h1, by rw [Nat.add_comm k 1, ← Nat.add_assoc]; exact h2⟩
theorem dropIx_sub (js : List Nat) : ∀ (F : List Fact) (i : Nat), List.Sublist (dropIx js i F) F
  | [], _ => List.Sublist.slnil
  | f :: r, i => by
    simp only [dropIx]
    cases memb js i with
    | true => exact (dropIx_sub js r (i + 1)).cons _
    | false => exact (dropIx_sub js r (i + 1)).cons_cons _

section
variable {cx : Cx} {β : Va} {n : Nat} {env : Env} {H : List Bk} {F : List Fact} {a : Act} {w w' : World}

theorem Sat.mem (h : Sat cx β n H F w) : Mem w F := ⟨h.fact, h.flt, h.sepf⟩
theorem Mem.take (h : Mem w F) : ∀ {js : List Nat}, nodupB js = true → Mem w (takeIx F js)
  | [], _ => ⟨fun _ q => (by cases q), fun _ q => (by cases q), List.Pairwise.nil⟩
  | j :: r, hn => by
    simp only [nodupB] at hn
    cases hb : memb r j with
    | true => rw [hb] at hn; cases hn
    | false =>
      rw [hb] at hn
      have ih := Mem.take h hn
      simp only [takeIx]
      split
      · rename_i f hf
        rw [nth_eq] at hf
        have hfm := List.mem_of_getElem? hf
        refine ⟨fun g hg => ?_, fun g hg => ?_, List.pairwise_cons.2 ⟨fun g hg ho k hk hk' => ?_, ih.sepf⟩⟩
        · rcases List.mem_cons.1 hg with rfl | hg
          · exact h.fact _ hfm
          · exact ih.fact g hg
        · rcases List.mem_cons.1 hg with rfl | hg
          · exact h.flt _ hfm
          · exact ih.flt g hg
        · obtain ⟨i, hi, hgi⟩ := takeIx_mem hg
          have hne : j ≠ i := fun q => by subst q; exact memb_not hb hi
          obtain ⟨hjl, rfl⟩ := List.getElem?_eq_some_iff.1 hf
          obtain ⟨hil, rfl⟩ := List.getElem?_eq_some_iff.1 hgi
          have hp := List.pairwise_iff_getElem.1 h.sepf
          rcases Nat.lt_or_gt_of_ne hne with hlt | hgt
          · exact hp j i hjl hil hlt ho k hk hk'
          · exact hp i j hil hjl hgt ho.symm k hk' hk
      · exact ⟨fun _ q => (by cases q), fun _ q => (by cases q), List.Pairwise.nil⟩

/-- Owned facts go, others come in their place. -/
theorem Sat.swap (h : Sat cx β n H F w) (js : List Nat) (hown : Owns (takeIx F js)) {Fs : List Fact} (hc : Chg (Un (takeIx F js)) w w') (hm : Mem w' Fs)
    (hD : ∀ f ∈ Fs, ∀ k, f.D k → Un (takeIx F js) k ∨ w.heap.size ≤ k) : Sat cx β n H (Fs ++ dropIx js 0 F) w' := by
  have hfm : ∀ g ∈ takeIx F js, g ∈ F := fun g hg => by obtain ⟨j, _, q⟩ := takeIx_mem hg; exact List.mem_of_getElem? q
  have hdm : ∀ g ∈ dropIx js 0 F, g ∈ F := fun g hg => (dropIx_sub js F 0).subset hg
  have hap : ∀ g ∈ takeIx F js, ∀ d ∈ dropIx js 0 F, ∀ k, g.D k → ¬ d.D k := by
    intro g hg d hd
    obtain ⟨j, hj, hgj⟩ := takeIx_mem hg
    obtain ⟨i, hi, hni⟩ := dropIx_mem hd
    exact h.apart hgj hi (fun q => by subst q; rw [Nat.zero_add] at hni; exact hni hj) (.inl (hown.mem g hg))
  have hS : ∀ k, Un (takeIx F js) k → cx.S k ∨ cx.W0.heap.size ≤ k := fun k ⟨g, hg, hk⟩ => h.fown g (hfm g hg) (hown.mem g hg) k hk
  refine ⟨?_, h.fix, fun b hb => ?_, h.mine, h.inj, h.ltb, fun f hf => ?_, fun f hf k hk => ?_, fun f hf b hb => ?_, fun f hf ho k hk => ?_, List.pairwise_append.2 ⟨hm.sepf, h.sepf.sublist (dropIx_sub js F 0), fun f hf d hd _ k hk hk' => ?_⟩, fun p hp => ⟨?_, (h.pin p hp).2.1, fun f hf => ?_⟩, h.mrk, h.rnd⟩
  · refine ⟨hc.os.trans h.chg.os, hc.tape.trans h.chg.tape, hc.output.trans h.chg.output, Nat.le_trans h.chg.size hc.size, fun k hk hn => ?_⟩
    rw [hc.same k (Nat.lt_of_lt_of_le hk h.chg.size) (fun q => ?_)]
    · exact h.chg.same k hk hn
    · rcases hS k q with q | q
      · exact hn q
      · omega
  · rw [hc.same _ (h.lt hb) (fun ⟨g, hg, hk⟩ => h.sepb g (hfm g hg) b hb hk)]; exact h.blk b hb
  · rcases List.mem_append.1 hf with hf | hf
    · exact hm.fact f hf
    · exact f.st _ _ (fun k hk => hc.same k (h.flt f (hdm f hf) k hk) (fun ⟨g, hg, hk'⟩ => hap g hg f hf k hk' hk)) (h.fact f (hdm f hf))
  · rcases List.mem_append.1 hf with hf | hf
    · exact hm.flt f hf k hk
    · exact Nat.lt_of_lt_of_le (h.flt f (hdm f hf) k hk) hc.size
  · rcases List.mem_append.1 hf with hf | hf
    · intro q
      rcases hD f hf _ q with ⟨g, hg, hk⟩ | q
      · exact h.sepb g (hfm g hg) b hb hk
      · have := h.lt hb; omega
    · exact h.sepb f (hdm f hf) b hb
  · rcases List.mem_append.1 hf with hf | hf
    · rcases hD f hf k hk with q | q
      · exact hS k q
      · exact .inr (Nat.le_trans h.chg.size q)
    · exact h.fown f (hdm f hf) ho k hk
  · rcases hD f hf k hk with ⟨g, hg, q⟩ | q
    · exact hap g hg d hd k q hk'
    · have := h.flt d (hdm d hd) k hk'; omega
  · rw [hc.same _ (h.pinLt hp) (fun ⟨g, hg, hk⟩ => (h.pin p hp).2.2 g (hfm g hg) hk)]; exact (h.pin p hp).1
  · rcases List.mem_append.1 hf with hf | hf
    · intro q
      rcases hD f hf _ q with ⟨g, hg, hk⟩ | q
      · exact (h.pin p hp).2.2 g (hfm g hg) hk
      · have := h.pinLt hp; omega
    · exact (h.pin p hp).2.2 f (hdm f hf)
end

/-- The facts in another order, or fewer. -/
theorem Sat.perm {cx : Cx} {β : Va} {n : Nat} {H : List Bk} {F : List Fact} {w : World} (h : Sat cx β n H F w) (js : List Nat) (hn : nodupB js = true := by rfl) : Sat cx β n H (takeIx F js) w := by
  have hm := h.mem.take hn
  have hfm : ∀ f ∈ takeIx F js, f ∈ F := fun f hf => by obtain ⟨j, _, q⟩ := takeIx_mem hf; exact List.mem_of_getElem? q
  exact ⟨h.chg, h.fix, h.blk, h.mine, h.inj, h.ltb, hm.fact, hm.flt, fun f hf => h.sepb f (hfm f hf), fun f hf => h.fown f (hfm f hf), hm.sepf, fun p hp => ⟨(h.pin p hp).1, (h.pin p hp).2.1, fun f hf => (h.pin p hp).2.2 f (hfm f hf)⟩, h.mrk, h.rnd⟩

def bksLt (n : Nat) : List Bk → Bool
  | [] => true
  | b :: r => match Nat.blt b.id n, allLtL n b.cells with | true, true => bksLt n r | _, _ => false
theorem bksLt_mem {n : Nat} : ∀ {H : List Bk}, bksLt n H = true → ∀ b ∈ H, b.id < n ∧ ∀ x ∈ b.cells, x.lt n
  | b :: r, h, c, hc => by
    simp only [bksLt] at h
    split at h
    · rename_i h1 h2
      rcases List.mem_cons.1 hc with rfl | hc
      · exact ⟨by simpa [Nat.blt_eq] using h1, allLtL_mem h2⟩
      · exact bksLt_mem h c hc
    · cases h
/-- Fewer numbers. -/
theorem Sat.lower {cx : Cx} {β : Va} {n n' : Nat} {H : List Bk} {F : List Fact} {w : World} (h : Sat cx β n H F w) (hH : bksLt n' H = true := by rfl) (hb : cx.bs.length ≤ n' := by first | exact Nat.zero_le _ | exact Nat.le_refl _ | assumption | exact Nat.le_of_ble_eq_true rfl) : Sat cx β n' H F w :=
  h.recast (Agr.refl _ _) hb (bksLt_mem hH)
/-- The blocks in another order, or fewer. -/
theorem Sat.keepB {cx : Cx} {β : Va} {n : Nat} {H : List Bk} {F : List Fact} {w : World} (h : Sat cx β n H F w) {H' : List Bk} (hs : List.Sublist H' H) : Sat cx β n H' F w := h.weaken hs (List.Sublist.refl _)

/-- From more temporaries. -/
theorem Ent.sub {cx : Cx} {n n' : Nat} {env env0 env' : Env} {H H' : List Bk} {F F' : List Fact} (h : Ent cx n env0 H F n' env' H' F') (hE : EntE env env0) (hl : envLt n env0 = true := by rfl) : Ent cx n env H F n' env' H' F' :=
  ⟨fun β a w hi => h.run β a w ⟨fun t s ht => hi.ag t s (hE.get t s ht), hi.size, hi.df, envLt_get hl, hi.sat⟩⟩

theorem flat_get {α γ : Type} (f : α → List γ) (k : Nat) (hf : ∀ x, (f x).length = k) : ∀ (l : List α) (i j : Nat) (x : α) (u : γ), l[i]? = some x → (f x)[j]? = some u → (l.flatMap f)[i * k + j]? = some u
  | y :: r, 0, j, x, u, h, hu => by
    obtain rfl : y = x := by simpa using h
    have hj : j < (f y).length := (List.getElem?_eq_some_iff.1 hu).1
    rw [List.flatMap_cons, Nat.zero_mul, Nat.zero_add, List.getElem?_append_left hj]
    exact hu
  | y :: r, i + 1, j, x, u, h, hu => by
    have h' : r[i]? = some x := by simpa using h
    rw [List.flatMap_cons, List.getElem?_append_right (by rw [hf, Nat.succ_mul]; omega), hf, show (i + 1) * k + j - k = i * k + j by rw [Nat.succ_mul]; omega]
    exact flat_get f k hf r i j x u h' hu
theorem flat_len {α γ : Type} (f : α → List γ) (k : Nat) (hf : ∀ x, (f x).length = k) (l : List α) : (l.flatMap f).length = l.length * k := by
  induction l with
  | nil => simp
  | cons x r ih => rw [List.flatMap_cons, List.length_append, hf, ih, List.length_cons, Nat.succ_mul]; omega
/-- One element of a row of things. -/
theorem Rd.elem {α : Type} {f : α → List Value} {k : Nat} (hf : ∀ x, (f x).length = k) {A : Option Addr} {l : List α} {w : World} (h : Rd k A l.length (l.flatMap f) w) {ad : Addr} (hA : A = some ad) {i : Nat} (hi : i < l.length) : ∀ j u, (f l[i])[j]? = some u → w.cell? ((ad.add (i * k)).add j) = some u := by
  intro j u hu
  obtain ⟨ad', q, hc⟩ := h.2 (by omega)
  rw [hA] at q
  obtain rfl := Option.some.inj q
  rw [add_add']
  exact hc _ _ (flat_get f k hf l i j _ u (List.getElem?_eq_getElem hi) hu)

/-! ### contracts -/
/-- What a call leaves: it took the owned things Gs, and hands back Fs. -/
def Fin (w : World) (Gs : List Fact) (R : Value → List Fact → Prop) (v : Value) (w' : World) : Prop :=
  ∃ Fs, R v Fs ∧ Chg (Un Gs) w w' ∧ Mem w' Fs ∧ Owns Fs ∧ ∀ f ∈ Fs, ∀ k, f.D k → Un Gs k ∨ w.heap.size ≤ k
def Con (P : Program) (f : FuncId) (args : Array Value) (w : World) (Gs : List Fact) (R : Value → List Fact → Prop) : Prop :=
  Calls P f args w fun e w' => ∃ v, e = .returned v ∧ Fin w Gs R v w'
/-- A call that only computes. -/
def Pu (P : Program) (f : FuncId) (args : Array Value) (w : World) (v : Value) : Prop := Con P f args w [] fun u Fs => u = v ∧ Fs = []

section
variable {cx : Cx} {β : Va} {n : Nat} {env : Env} {H : List Bk} {F : List Fact} {a : Act} {w w' : World} {dst : Option Tmp} {K : KT} {k : FuncId}
theorem Un.nil : Un [] = None_ := by
  funext k
  simp [Un, None_]
theorem Fin.mono {Gs : List Fact} {R R' : Value → List Fact → Prop} {v : Value} (h : Fin w Gs R v w') (hr : ∀ Fs, R v Fs → R' v Fs) : Fin w Gs R' v w' :=
  let ⟨Fs, h1, h2⟩ := h; ⟨Fs, hr _ h1, h2⟩
theorem Con.mono {P : Program} {args : Array Value} {Gs : List Fact} {R R' : Value → List Fact → Prop} (h : Con P k args w Gs R) (hr : ∀ v Fs, R v Fs → R' v Fs) : Con P k args w Gs R' :=
  Calls.mono h fun _ _ ⟨v, he, hf⟩ => ⟨v, he, hf.mono (hr v)⟩
/-- A call by its contract; js: where the owned facts that it takes stand. -/
theorem call_con (js : List Nat) {A : Va → Array Value} {R : Value → List Fact → Prop} (hc : ∀ β w, Sat cx β n H F w → Con cx.P k (A β) w (takeIx F js) R)
    (hk : ∀ v Fs, R v Fs → put cx.N n env H (Fs ++ dropIx js 0 F) dst (ofValue v) K) (hown : Owns (takeIx F js) := by first | exact trivial | exact ⟨rfl, trivial⟩ | exact ⟨rfl, rfl, trivial⟩ | exact ⟨by assumption, trivial⟩) :
    ∀ β w, Sat cx β n H F w → Calls cx.P k (A β) w fun e w' => ∃ v, e = .returned v ∧ Ret cx β n env dst K v w' := fun β w hs =>
  Calls.mono (hc β w hs) fun _ _ ⟨v, he, Fs, hR, hch, hm, _, hD⟩ => ⟨v, he, Ret.mk _ _ (hs.swap js hown hch hm hD) (hk v Fs hR)⟩
/-- The same, and the state is read anew behind the call. -/
theorem call_conS (js : List Nat) {A : Va → Array Value} {R : Value → List Fact → Prop} (hc : ∀ β w, Sat cx β n H F w → Con cx.P k (A β) w (takeIx F js) R)
    (hk : ∀ v Fs, R v Fs → ∃ H' F', (∀ β w, Sat cx β n H (Fs ++ dropIx js 0 F) w → Sat cx β n H' F' w) ∧ put cx.N n env H' F' dst (ofValue v) K) (hown : Owns (takeIx F js) := by first | exact trivial | exact ⟨rfl, trivial⟩ | exact ⟨rfl, rfl, trivial⟩ | exact ⟨by assumption, trivial⟩) :
    ∀ β w, Sat cx β n H F w → Calls cx.P k (A β) w fun e w' => ∃ v, e = .returned v ∧ Ret cx β n env dst K v w' := fun β w hs =>
  Calls.mono (hc β w hs) fun _ w' ⟨v, he, Fs, hR, hch, hm, _, hD⟩ => ⟨v, he, by
    obtain ⟨H', F', h1, h2⟩ := hk v Fs hR
    exact Ret.mk _ _ (h1 β w' (hs.swap js hown hch hm hD)) h2⟩
theorem call_pu {A : Va → Array Value} {v : Value} (hc : ∀ β w, Sat cx β n H F w → Pu cx.P k (A β) w v) (hk : put cx.N n env H F dst (ofValue v) K) :
    ∀ β w, Sat cx β n H F w → Calls cx.P k (A β) w fun e w' => ∃ v, e = .returned v ∧ Ret cx β n env dst K v w' := fun β w hs =>
  Calls.mono (hc β w hs) fun _ _ ⟨v, he, Fs, ⟨h1, h2⟩, hch, hm, _, hD⟩ => ⟨v, he, by
    subst h1 h2
    exact Ret.mk _ _ (hs.same (by rw [← Un.nil]; exact hch)) hk⟩
theorem call_puS {A : Va → Array Value} {v : Value} (hc : ∀ β w, Sat cx β n H F w → Pu cx.P k (A β) w v) (H' : List Bk) (F' : List Fact) (hS : ∀ β w, Sat cx β n H F w → Sat cx β n H' F' w) (hk : put cx.N n env H' F' dst (ofValue v) K) :
    ∀ β w, Sat cx β n H F w → Calls cx.P k (A β) w fun e w' => ∃ v, e = .returned v ∧ Ret cx β n env dst K v w' := fun β w hs =>
  Calls.mono (hc β w hs) fun _ _ ⟨v, he, Fs, ⟨h1, h2⟩, hch, hm, _, hD⟩ => ⟨v, he, by
    subst h1 h2
    exact Ret.mk _ _ (hS _ _ (hs.same (by rw [← Un.nil]; exact hch))) hk⟩
/-- A function's contract from its walk. -/
theorem con_of_sx {f : FuncId} {fn : Func} {c : Code} {Gs : List Fact} {R : Value → List Fact → Prop} (g : Good cx) (hf : cx.P.funcs[f]? = some fn) (hb : fn.body = some c) (hN : fn.ntmps = cx.N)
    {β : Va} (svs : List SV) (n : Nat) (H : List Bk) (F : List Fact) (hlen : Nat.ble svs.length cx.N = true) (hltB : allLt n svs = true) (hs : Sat cx β n H F w)
    (hw : cwp cx c (fnPost cx fn.results.toList (Fin w Gs R)) n (pairs 0 svs) H F) (hr : cx.rnd = none := by rfl) (hm : β.marks = [] := by rfl) (hp0 : cx.pn = [] := by rfl) :
    Con cx.P f (svs.map (SV.val β)).toArray w Gs R := calls_of_sx g hf hb hN svs n H F hlen hltB hs hw hr hm hp0
/-- At the return. -/
theorem Sat.fin {Gs : List Fact} {R : Value → List Fact → Prop} {v : Value} (h : Sat cx β n H F w') (js : List Nat) (hR : R v (takeIx F js)) (hW : cx.W0 = w := by rfl) (hS : cx.S = Un Gs := by rfl)
    (hn : nodupB js = true := by rfl) (hown : Owns (takeIx F js) := by first | exact trivial | exact ⟨rfl, trivial⟩ | exact ⟨rfl, rfl, trivial⟩ | exact ⟨by assumption, trivial⟩) : Fin w Gs R v w' := by
  refine ⟨_, hR, by rw [← hW, ← hS]; exact h.chg, h.mem.take hn, hown, fun f hf k hk => ?_⟩
  obtain ⟨j, _, hj⟩ := takeIx_mem hf
  rw [← hS, ← hW]
  exact h.fown f (List.mem_of_getElem? hj) (hown.mem f hf) k hk
/-- The beginning: what is handed in. -/
theorem Mem.sat (h : Mem w F) (hW : cx.W0 = w := by rfl) (hS : ∀ f ∈ F, f.own = true → ∀ k, f.D k → cx.S k) (hfix : cx.bs.length ≤ n ∧ ∀ i, i < cx.bs.length → β i = cx.bs.getD i 0)
    (hp : β.pins = [] := by rfl) (hm : β.marks = [] := by rfl) (hr : cx.rnd = none := by rfl) (hpn : cx.pn = [] := by rfl) : Sat cx β n [] F w := by
  have h0 : Sat cx β n [] [] w := Sat.startB hW hfix.1 hfix.2 hp hm hr hpn
  refine ⟨h0.chg, h0.fix, h0.blk, h0.mine, h0.inj, h0.ltb, h.fact, h.flt, fun _ _ b hb => (by cases hb), fun f hf ho k hk => .inl (hS f hf ho k hk), h.sepf, fun p hq => ?_, h0.mrk, h0.rnd⟩
  rw [hp] at hq; cases hq

/-! ### bundles -/
def sepF (Fs : List Fact) : Fact where
  own := true
  D := Un Fs
  p := fun w => (∀ f ∈ Fs, f.p w) ∧ Fs.Pairwise (fun f g : Fact => ∀ k : Nat, f.D k → ¬ g.D k)
  st := fun w w' hs h => ⟨fun f hf => f.st w w' (fun k hk => hs k ⟨f, hf, hk⟩) (h.1 f hf), h.2⟩
theorem Sat.unsep (h : Sat cx β n H F w) (j : Nat) {Fs : List Fact} (hj : nth F j = some (sepF Fs)) : Sat cx β n H (Fs ++ dropIx [j] 0 F) w := by
  have hj' : F[j]? = some (sepF Fs) := by rw [← nth_eq]; exact hj
  have hm : sepF Fs ∈ F := List.mem_of_getElem? hj'
  have hp := h.fact _ hm
  have hdm : ∀ g ∈ dropIx [j] 0 F, g ∈ F := fun g hg => (dropIx_sub [j] F 0).subset hg
  have hap : ∀ f ∈ Fs, ∀ d ∈ dropIx [j] 0 F, ∀ k, f.D k → ¬ d.D k := by
    intro f hf d hd k hk
    obtain ⟨i, hi, hni⟩ := dropIx_mem hd
    exact h.apart hj' hi (fun q => by subst q; simp at hni) (.inl rfl) k ⟨f, hf, hk⟩
  refine ⟨h.chg, h.fix, h.blk, h.mine, h.inj, h.ltb, fun f hf => ?_, fun f hf k hk => ?_, fun f hf b hb q => ?_, fun f hf ho k hk => ?_, List.pairwise_append.2 ⟨(by refine hp.2.imp ?_; intro f g q _; exact q), h.sepf.sublist (dropIx_sub [j] F 0), fun f hf d hd _ => hap f hf d hd⟩, fun p hpp => ⟨(h.pin p hpp).1, (h.pin p hpp).2.1, fun f hf q => ?_⟩, h.mrk, h.rnd⟩
  all_goals rcases List.mem_append.1 hf with hf | hf
  · exact hp.1 f hf
  · exact h.fact f (hdm f hf)
  · exact h.flt _ hm k ⟨f, hf, hk⟩
  · exact h.flt f (hdm f hf) k hk
  · exact h.sepb _ hm b hb ⟨f, hf, q⟩
  · exact h.sepb f (hdm f hf) b hb q
  · exact h.fown _ hm rfl k ⟨f, hf, hk⟩
  · exact h.fown f (hdm f hf) ho k hk
  · exact (h.pin p hpp).2.2 _ hm ⟨f, hf, q⟩
  · exact (h.pin p hpp).2.2 f (hdm f hf) q
theorem Sat.sep (h : Sat cx β n H F w) (js : List Nat) (hn : nodupB js = true := by rfl) (hown : Owns (takeIx F js) := by first | exact trivial | exact ⟨rfl, trivial⟩ | exact ⟨rfl, rfl, trivial⟩ | exact ⟨rfl, rfl, rfl, trivial⟩) : Sat cx β n H (sepF (takeIx F js) :: dropIx js 0 F) w := by
  have hm := h.mem.take hn
  refine h.swap js hown (Fs := [sepF (takeIx F js)]) (Chg.refl _ _) ⟨fun f hf => ?_, fun f hf k hk => ?_, List.pairwise_singleton _ _⟩ (fun f hf k hk => ?_)
  · obtain rfl := List.mem_singleton.1 hf
    refine ⟨hm.fact, List.Pairwise.imp_of_mem (fun {f g} hf _ q => q (.inl (hown.mem f hf))) hm.sepf⟩
  · obtain rfl := List.mem_singleton.1 hf
    obtain ⟨g, hg, q⟩ := hk
    exact hm.flt g hg k q
  · obtain rfl := List.mem_singleton.1 hf
    exact .inl hk

/-- Owned facts as one. -/
theorem Sat.fuse (h : Sat cx β n H F w) (js : List Nat) (g : Fact) (hg : ∀ w, Mem w (takeIx F js) → g.p w) (hD : ∀ k, g.D k → Un (takeIx F js) k) (hn : nodupB js = true := by rfl) (hown : Owns (takeIx F js) := by first | exact trivial | exact ⟨rfl, trivial⟩ | exact ⟨rfl, rfl, trivial⟩ | exact ⟨rfl, rfl, rfl, trivial⟩) : Sat cx β n H (g :: dropIx js 0 F) w := by
  have hm := h.mem.take hn
  refine h.swap js hown (Fs := [g]) (Chg.refl _ _) ⟨fun f hf => ?_, fun f hf k hk => ?_, List.pairwise_singleton _ _⟩ (fun f hf k hk => ?_)
  · obtain rfl := List.mem_singleton.1 hf; exact hg w hm
  · obtain rfl := List.mem_singleton.1 hf
    obtain ⟨d, hd, q⟩ := hD k hk
    exact hm.flt d hd k q
  · obtain rfl := List.mem_singleton.1 hf
    exact .inl (hD k hk)
/-- A fact on no memory. -/
theorem Sat.noMem (h : Sat cx β n H F w) (g : Fact) (hp : g.p w) (hD : ∀ k, ¬ g.D k) : Sat cx β n H (g :: F) w := h.add (Chg.refl _ _) g hp (fun k hk => (hD k hk).elim)
theorem Sat.nilRow (h : Sat cx β n H F w) (e : TypeId) (size : Nat) : Sat cx β n H (rowF e size (.slice none 0 0) 0 [] :: F) w :=
  h.noMem _ ⟨by simp, .inl ⟨rfl, rfl⟩⟩ (fun k hk => by cases hk)

/-- A local block as a fact. -/
theorem Sat.ofBk {id : Nat} {ty : TypeId} {cells : List SL} (h : Sat cx β n (⟨id, ty, cells⟩ :: H) F w) : Sat cx β n H (bkF (β id) ty (cells.map (SL.val β)) :: F) w := by
  have hb := h.blk _ List.mem_cons_self
  have h1 := h.weaken (List.sublist_cons_self _ H) (List.Sublist.refl F)
  refine h1.old (bkF (β id) ty (cells.map (SL.val β))) hb (fun k hk => ?_) (fun b hb' q => ?_) (fun _ k hk => ?_) (fun g hg _ k hk q => ?_) (fun p hp q => ?_)
  · obtain rfl : k = β id := hk; exact h.lt (b := ⟨id, ty, cells⟩) List.mem_cons_self
  · exact (List.pairwise_cons.1 h.inj).1 b hb' (Eq.symm q)
  · obtain rfl : k = β id := hk; exact h.mine _ List.mem_cons_self
  · obtain rfl : k = β id := hk; exact h.sepb g hg _ List.mem_cons_self q
  · exact h.pinBk hp List.mem_cons_self (Eq.symm q)
/-- A fact as a local block. -/
theorem Sat.toBk (h : Sat cx β n H F w) (j : Nat) {b : Nat} {ty : TypeId} {cs : List Value} (hj : nth F j = some (bkF b ty cs)) (id : Nat) (hid : id < n) (hb : β id = b) :
    Sat cx β n (⟨id, ty, cs.map SL.v⟩ :: H) (dropIx [j] 0 F) w := by
  subst hb
  have hj' : F[j]? = some (bkF (β id) ty cs) := by rw [← nth_eq]; exact hj
  have hm := List.mem_of_getElem? hj'
  have hp : w.heap[β id]? = some (.cells cs.toArray ty (0, 0)) := h.fact _ hm
  have h1 := h.weaken (List.Sublist.refl H) (dropIx_sub [j] F 0)
  refine ⟨h1.chg, h1.fix, fun b hb => ?_, fun b hb => ?_, List.pairwise_cons.2 ⟨fun b hb q => ?_, h1.inj⟩, fun b hb => ?_, h1.fact, h1.flt, fun f hf b hb => ?_, h1.fown, h1.sepf, h1.pin, h1.mrk, h1.rnd⟩
  · rcases List.mem_cons.1 hb with rfl | hb
    · rw [hp]; simp [Function.comp_def, SL.val]
    · exact h1.blk b hb
  · rcases List.mem_cons.1 hb with rfl | hb
    · exact h.fown _ hm rfl _ rfl
    · exact h1.mine b hb
  · exact h.sepb _ hm b hb q.symm
  · rcases List.mem_cons.1 hb with rfl | hb
    · refine ⟨hid, fun x hx => ?_⟩
      obtain ⟨y, _, rfl⟩ := List.mem_map.1 hx
      trivial
    · exact h1.ltb b hb
  · rcases List.mem_cons.1 hb with rfl | hb
    · obtain ⟨i, hi, hni⟩ := dropIx_mem hf
      intro q
      exact h.apart hj' hi (fun e => by subst e; simp at hni) (.inl rfl) (β id) rfl q
    · exact h1.sepb f hf b hb
end
#print axioms Sat.toBk
end Go.Proofs.YthkjfepbmnabkaaDoor.Sx
