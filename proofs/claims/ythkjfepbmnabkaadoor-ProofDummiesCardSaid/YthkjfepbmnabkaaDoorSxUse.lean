/- Lemmas for proofs with the executor. -/
import Derived.Test.YthkjfepbmnabkaaDoorSxDraw
namespace Go.Proofs.YthkjfepbmnabkaaDoor.Sx
open Go

section
variable {cx : Cx} {β : Va} {n : Nat} {env : Env} {H : List Bk} {F : List Fact} {a : Act} {w w' : World}

/-- A fact of the state, by its place. -/
theorem Sat.get (h : Sat cx β n H F w) (j : Nat) {f : Fact} (hj : nth F j = some f) : f.p w := h.fact f (List.mem_of_getElem? (by rw [← nth_eq]; exact hj))
theorem Sat.getLt (h : Sat cx β n H F w) (j : Nat) {f : Fact} (hj : nth F j = some f) : ∀ k, f.D k → k < w.heap.size := h.flt f (List.mem_of_getElem? (by rw [← nth_eq]; exact hj))
/-- An owned fact of a function that may write nothing old: its memory is new. -/
theorem Sat.getNew (h : Sat cx β n H F w) (j : Nat) {f : Fact} (hj : nth F j = some f) (ho : f.own = true) : ∀ k, f.D k → cx.S k ∨ cx.W0.heap.size ≤ k := h.fown f (List.mem_of_getElem? (by rw [← nth_eq]; exact hj)) ho

theorem Sat.startB (hw : cx.W0 = w) (hn : cx.bs.length ≤ n) (hb : ∀ i, i < cx.bs.length → β i = cx.bs.getD i 0) (hp : β.pins = [] := by rfl) (hm : β.marks = [] := by rfl) (hr : cx.rnd = none := by rfl) (hpn : cx.pn = [] := by rfl) : Sat cx β n [] [] w := by
  subst hw
  refine ⟨Chg.refl _ _, ⟨hn, hb⟩, ?_, ?_, List.Pairwise.nil, ?_, ?_, ?_, ?_, ?_, List.Pairwise.nil, ?_, ⟨by rw [hm]; exact List.nodup_nil, ?_⟩, ⟨?_, ?_⟩⟩
  · intro x hx; cases hx
  · intro x hx; cases hx
  · intro x hx; cases hx
  · intro x hx; cases hx
  · intro x hx; cases hx
  · intro x hx; cases hx
  · intro x hx; cases hx
  · intro x hx; rw [hp] at hx; cases hx
  · intro x hx; rw [hm] at hx; cases hx
  · intro x hx; rw [hpn] at hx; cases hx
  · intro l hl; rw [hr] at hl; cases hl
theorem Sat.start (hw : cx.W0 = w) (hbs : cx.bs = [] := by rfl) (hp : β.pins = [] := by rfl) (hm : β.marks = [] := by rfl) (hr : cx.rnd = none := by rfl) (hpn : cx.pn = [] := by rfl) : Sat cx β n [] [] w :=
  Sat.startB hw (by rw [hbs]; exact Nat.zero_le _) (fun i hi => by rw [hbs] at hi; cases hi) hp hm hr hpn
/-- One fact more on memory that is there. -/
theorem Sat.old (h : Sat cx β n H F w) (f : Fact) (hp : f.p w) (hD : ∀ k, f.D k → k < w.heap.size) (hb : ∀ b ∈ H, ¬ f.D (β b.id)) (ho : f.own = true → ∀ k, f.D k → cx.S k ∨ cx.W0.heap.size ≤ k)
    (hs : ∀ g ∈ F, f.own = true ∨ g.own = true → ∀ k, f.D k → ¬ g.D k) (hpp : ∀ p ∈ β.pins, ¬ f.D p.1 := by (intro p hp; exact absurd hp List.not_mem_nil)) : Sat cx β n H (f :: F) w := by
  refine ⟨h.chg, h.fix, h.blk, h.mine, h.inj, h.ltb, ?_, ?_, ?_, ?_, List.pairwise_cons.2 ⟨hs, h.sepf⟩, fun p hp' => ⟨(h.pin p hp').1, (h.pin p hp').2.1, ?_⟩, h.mrk, h.rnd⟩ <;> intro g hg <;> rcases List.mem_cons.1 hg with rfl | hg
  · assumption
  · exact h.fact g hg
  · exact hD
  · exact h.flt g hg
  · exact hb
  · exact h.sepb g hg
  · exact ho
  · exact h.fown g hg
  · exact hpp p hp'
  · exact (h.pin p hp').2.2 g hg

/-- A fact that is only read, on memory of such a one. -/
theorem Sat.sub (h : Sat cx β n H F w) (j : Nat) {f : Fact} (hj : nth F j = some f) (hfo : f.own = false) (g : Fact) (hgo : g.own = false) (hp : g.p w) (hD : ∀ k, g.D k → f.D k) : Sat cx β n H (g :: F) w := by
  have hm : f ∈ F := List.mem_of_getElem? (by rw [← nth_eq]; exact hj)
  refine h.old g hp (fun k hk => h.flt f hm k (hD k hk)) (fun b hb q => h.sepb f hm b hb (hD _ q)) (fun q => by rw [hgo] at q; cases q) (fun g' hg' ho k hk hk' => ?_) (fun p hpp q => (h.pin p hpp).2.2 f hm (hD _ q))
  have ho' : g'.own = true := ho.resolve_left (by rw [hgo]; decide)
  rw [nth_eq] at hj
  obtain ⟨i, hi⟩ := List.getElem?_of_mem hg'
  have hne : i ≠ j := fun q => by subst q; rw [hi] at hj; obtain rfl := Option.some.inj hj; rw [hfo] at ho'; cases ho'
  exact h.apart hi hj hne (.inl ho') k hk' (hD k hk)

/-- A block that is there, known whole, as a local one. -/
theorem Sat.oldBk (h : Sat cx β n [] F w) {id : Nat} {ty : TypeId} {cells : List SL} (hid : id < n) (hlt : allLtL n cells = true) (hb : w.heap[β id]? = some (.cells (cells.map (SL.val β)).toArray ty (0, 0)))
    (hm : cx.S (β id) ∨ cx.W0.heap.size ≤ β id) (hf : ∀ f ∈ F, ¬ f.D (β id)) : Sat cx β n [⟨id, ty, cells⟩] F w := by
  refine ⟨h.chg, h.fix, ?_, ?_, List.pairwise_singleton _ _, ?_, h.fact, h.flt, ?_, h.fown, h.sepf, h.pin, h.mrk, h.rnd⟩
  · intro b hb'; obtain rfl := List.mem_singleton.1 hb'; exact hb
  · intro b hb'; obtain rfl := List.mem_singleton.1 hb'; exact hm
  · intro b hb'; obtain rfl := List.mem_singleton.1 hb'; exact ⟨hid, allLtL_mem hlt⟩
  · intro f hfm b hb'; obtain rfl := List.mem_singleton.1 hb'; exact hf f hfm

theorem rd_lt {size : Nat} {A : Option Addr} {k : Nat} {xs : List Value} (h : Rd size A k xs w) : ∀ g, (rdF size A k xs).D g → g < w.heap.size := by
  rintro g ⟨hk, ad, rfl, rfl⟩
  obtain ⟨ad', q, hc⟩ := h.2 (Nat.pos_of_mul_pos_right hk)
  obtain rfl := Option.some.inj q
  have hl : 0 < xs.length := by rw [h.1]; exact hk
  have h0 := hc 0 _ (List.getElem?_eq_getElem hl)
  simp only [Addr.add, if_true] at h0
  rcases Nat.lt_or_ge ad.block w.heap.size with hlt | hge
  · exact hlt
  · simp [World.cell?, Array.getElem?_eq_none hge] at h0
/-- A slice that is only read: where no fact is owned yet. -/
theorem Sat.rd (h : Sat cx β n [] F w) (hF : ∀ g ∈ F, g.own = false) {size : Nat} {A : Option Addr} {k : Nat} {xs : List Value} (hr : Rd size A k xs w) (hpp : ∀ p ∈ β.pins, ¬ (rdF size A k xs).D p.1 := by (intro p hp; exact absurd hp List.not_mem_nil)) : Sat cx β n [] (rdF size A k xs :: F) w :=
  h.old _ hr (rd_lt hr) (fun _ hb => by cases hb) (fun q => by cases q) (fun g hg ho => by
    rcases ho with q | q
    · cases q
    · rw [hF g hg] at q; cases q) hpp
end

/-! ### the head of a loop -/
def EntE (env : Env) : Env → Prop
  | [] => True
  | (t, s) :: r => get env t = some s ∧ EntE env r
theorem EntE.get {env : Env} : ∀ {env' : Env}, EntE env env' → ∀ t s, get env' t = some s → get env t = some s
  | [], _, t, s, h => by cases h
  | (u, s') :: r, hE, t, s, h => by
    by_cases hut : u = t
    · subst hut
      rw [get_same] at h
      obtain rfl := Option.some.inj h
      exact hE.1
    · rw [get_other _ _ hut] at h
      exact EntE.get hE.2 t s h
def envLt (n : Nat) : Env → Bool
  | [] => true
  | (_, s) :: r => match s.ltB n with | true => envLt n r | false => false
theorem envLt_get {n : Nat} : ∀ {env : Env}, envLt n env = true → ∀ t s, get env t = some s → s.lt n
  | [], _, t, s, h => by cases h
  | (u, s') :: r, hE, t, s, h => by
    simp only [envLt] at hE
    cases hl : s'.ltB n with
    | false => rw [hl] at hE; cases hE
    | true =>
      rw [hl] at hE
      by_cases hut : u = t
      · subst hut
        rw [get_same] at h
        obtain rfl := Option.some.inj h
        exact SV.ltB_lt hl
      · rw [get_other _ _ hut] at h
        exact envLt_get hE t s h
theorem Ent.mk' {cx : Cx} {n n' : Nat} {env env' : Env} {H H' : List Bk} {F F' : List Fact} (hE : EntE env env') (hl : envLt n' env' = true) (hs : ∀ β w, Sat cx β n H F w → Sat cx β n' H' F' w) : Ent cx n env H F n' env' H' F' :=
  ⟨fun β a w h => ⟨β, rfl, rfl, fun t s ht => h.ag t s (hE.get t s ht), h.size, h.df, envLt_get hl, hs β w h.sat⟩⟩
theorem Ent.same {cx : Cx} {n : Nat} {env env' : Env} {H : List Bk} {F : List Fact} (hE : EntE env env') (hl : envLt n env' = true) : Ent cx n env H F n env' H F := Ent.mk' hE hl fun _ _ h => h

/-- A store into a row. -/
theorem Sat.rowSet {cx : Cx} {β : Va} {n : Nat} {H : List Bk} {F : List Fact} {w : World} (h : Sat cx β n H F w) {j : Nat} {b k c e size : Nat} {xs us : List Value} {o : Nat}
    (hj : nth F j = some (rowF e size (.slice (some ⟨b, 0, none⟩) k c) k xs)) (hlt : o + us.length ≤ k * size) (h1 : ∀ u ∈ us, u.oneCell' = true) :
    ∃ w', (storeCells ((⟨b, 0, none⟩ : Addr).add o) us 0).run cx.P w = .ok () w' ∧ Sat cx β n H (putAt F j (rowF e size (.slice (some ⟨b, 0, none⟩) k c) k (putAll xs o us))) w' := by
  have hp : w.ownsRow 0 e size (.slice (some ⟨b, 0, none⟩) k c) k xs := h.get j hj
  rcases hp.2 with ⟨q, _⟩ | ⟨g, cap, cur, hv, _, hg, hnc, hcm, hcs, htake⟩
  · cases q
  · have hbg : b = g := by injection hv with h1 h2 h3; injection h1 with h1; injection h1
    have hcc : c = cap := by injection hv
    subst hbg hcc
    have hks : k * size ≤ c * size := Nat.mul_le_mul_right _ hnc
    have hcl : cur.toList.length = c * size := by simpa using hcs
    obtain ⟨w', e1, e2, e3, e4⟩ := run_storeCells (P := cx.P) b e us o 0 w cur.toList (by simpa using hg) h1 (by rw [hcl]; omega)
    rw [add_none, Nat.zero_add]
    refine ⟨w', e1, h.upd hj rfl (Chg.mono e3 (fun i _ q => by subst q; rfl)) ?_ (fun q hq => .inl hq)⟩
    refine ⟨by rw [length_putAll]; exact hp.1, .inr ⟨b, c, _, rfl, Nat.zero_le _, e2, hnc, hcm, by simp [length_putAll, hcs], ?_⟩⟩
    rw [Nat.add_zero, ← htake]
    have key : ∀ (us l : List Value) (o m : Nat), o + us.length ≤ m → (putAll l o us).take m = putAll (l.take m) o us := by
      intro us
      induction us with
      | nil => intro l o m _; rfl
      | cons u us ih =>
        intro l o m hm
        simp only [List.length_cons] at hm
        rw [putAll, putAll, putAt_eq, putAt_eq, ih _ _ _ (by omega), List.take_set]
    simpa using key us cur.toList o (k * size) hlt

/-! ### bytes -/
/-- A slice of bytes that reads as l. -/
abbrev Bs (w : World) (A : Option Addr) (l : List UInt8) : Prop := Rd 1 A l.length (l.map byte) w
abbrev bsF (A : Option Addr) (l : List UInt8) : Fact := rdF 1 A l.length (l.map byte)
/-- What a slice may hold. -/
def lim : Nat := 70368744177664
theorem lim_eq : lim = 70368744177664 := rfl
theorem bytes_one (l : List UInt8) : ∀ u ∈ l.map byte, u.oneCell' = true := by
  intro u hu
  obtain ⟨x, _, rfl⟩ := List.mem_map.1 hu
  rfl
theorem Bs.cell {w : World} {A : Option Addr} {l : List UInt8} (h : Bs w A l) {ad : Addr} (hA : A = some ad) {j : Nat} (hj : j < l.length) : w.cell? (ad.add (j * 1)) = some (byte l[j]) := by
  obtain ⟨ad', q, hc⟩ := h.2 (by omega)
  rw [hA] at q
  obtain rfl := Option.some.inj q
  rw [Nat.mul_one]
  exact hc j _ (by simp [List.getElem?_eq_getElem hj])
theorem Bs.addr {w : World} {A : Option Addr} {l : List UInt8} (h : Bs w A l) (hl : 0 < l.length) : ∃ ad, A = some ad := by
  obtain ⟨ad', q, _⟩ := h.2 hl
  exact ⟨ad', q⟩
theorem Bs.same {w w' : World} {A : Option Addr} {l : List UInt8} (h : Bs w A l) {S : Nat → Prop} (hc : Chg S w w') (hd : ∀ k, (bsF A l).D k → ¬ S k) : Bs w' A l :=
  (bsF A l).st w w' (fun k hk => hc.same k (rd_lt h k hk) (hd k hk)) h
theorem Bs.chg {w w' : World} {A : Option Addr} {l : List UInt8} (h : Bs w A l) (hc : Chg None_ w w') : Bs w' A l := h.same hc (fun _ _ q => q)
theorem Bs.nil (w : World) (A : Option Addr) : Bs w A [] := ⟨rfl, fun h => by simp at h⟩
/-- A cut of a slice of bytes. -/
theorem Bs.cut {w : World} {A : Option Addr} {l : List UInt8} (h : Bs w A l) {c m i j : Nat} (hl : l.length ≤ c) (hm : m = c ∨ j ≤ m) (hij : i ≤ j) (hj : j ≤ l.length) (hmc : m ≤ c) : Rd 1 (cutA A m i 1) (j - i) (((l.drop i).take (j - i)).map byte) w := by
  refine ⟨by simp; omega, fun hp => ?_⟩
  obtain ⟨ad, rfl, hc⟩ := h.2 (by omega)
  have hne : ¬ m = i := by rcases hm with rfl | hm <;> omega
  refine ⟨ad.add (i * 1), by simp [cutA, hne], fun k u hk => ?_⟩
  rw [add_add', Nat.mul_one]
  refine hc (i + k) u ?_
  rw [← hk]
  simp only [List.getElem?_map, List.getElem?_take, List.getElem?_drop]
  have hkl : k < j - i := by
    have := (List.getElem?_eq_some_iff.1 hk).1
    simp at this; omega
  simp [hkl]

theorem Bs.cutB {w : World} {A : Option Addr} {l m : List UInt8} (h : Bs w A l) {c i j : Nat} (hl : l.length ≤ c) (hij : i ≤ j) (hj : j ≤ l.length) (hm : (l.drop i).take (j - i) = m) : Bs w (cutA A c i 1) m := by
  have h1 := h.cut (c := c) (m := c) hl (.inl rfl) hij hj (Nat.le_refl _)
  have h2 : m.length = j - i := by rw [← hm]; simp; omega
  show Rd 1 _ m.length _ w
  rw [h2, ← hm]
  exact h1
/-- A row of bytes that is new. -/
def NewRow (w w' : World) (A : Option Addr) (l : List UInt8) (c e : Nat) : Prop :=
  l.length ≤ c ∧ c ≤ maxLen ∧ w'.ownsRow 0 e 1 (.slice A l.length c) l.length (l.map byte) ∧ ∀ k, Value.ownBlock (.slice A l.length c) = some k → w.heap.size ≤ k
theorem NewRow.bs {w w' : World} {A : Option Addr} {l : List UInt8} {c e : Nat} (h : NewRow w w' A l c e) : Bs w' A l := row_rd h.2.2.1
abbrev browF (e : Nat) (A : Option Addr) (l : List UInt8) (c : Nat) : Fact := rowF e 1 (.slice A l.length c) l.length (l.map byte)
theorem NewRow.lt {w w' : World} {A : Option Addr} {l : List UInt8} {c e : Nat} (h : NewRow w w' A l c e) : ∀ k, (browF e A l c).D k → w.heap.size ≤ k ∧ k < w'.heap.size := fun k hk => ⟨h.2.2.2 k hk, (h.2.2.1.lt k hk).2⟩
theorem NewRow.rdlt {w w' : World} {A : Option Addr} {l : List UInt8} {c e : Nat} (h : NewRow w w' A l c e) : ∀ k, (bsF A l).D k → w.heap.size ≤ k ∧ k < w'.heap.size := by
  rintro k ⟨_, ad, rfl, rfl⟩
  exact h.lt ad.block rfl
section
variable {cx : Cx} {β : Va} {n : Nat} {env : Env} {H : List Bk} {F : List Fact} {a : Act} {w w' : World}
/-- What a function hands back that it made itself. -/
theorem Sat.newRow (h : Sat cx β n H F w) (hS : cx.S = None_) (j : Nat) {A : Option Addr} {l : List UInt8} {c e : Nat} (hj : nth F j = some (browF e A l c)) (h1 : l.length ≤ c) (h2 : c ≤ maxLen) : NewRow cx.W0 w A l c e := by
  refine ⟨h1, h2, h.get j hj, fun k hk => ?_⟩
  rcases h.getNew j hj rfl k hk with q | q
  · rw [hS] at q; exact q.elim
  · exact q
/-- Behind a call that made a row of bytes, which nobody will write any more. -/
theorem Sat.addBs (h : Sat cx β n H F w) (hc : Chg None_ w w') {A : Option Addr} {l : List UInt8} {c e : Nat} (hr : NewRow w w' A l c e) : Sat cx β n H (bsF A l :: F) w' := h.add hc _ hr.bs hr.rdlt
theorem Sat.addRow (h : Sat cx β n H F w) (hc : Chg None_ w w') {A : Option Addr} {l : List UInt8} {c e : Nat} (hr : NewRow w w' A l c e) : Sat cx β n H (browF e A l c :: F) w' := h.add hc _ hr.2.2.1 hr.lt
end
theorem mn (a b : Nat) : min (a : Int) b = ((min a b : Nat) : Int) := by omega
theorem mx (a b : Nat) : max (a : Int) b = ((max a b : Nat) : Int) := by omega
theorem wrap_i64 {x : Int} (h1 : -9223372036854775808 ≤ x) (h2 : x < 9223372036854775808) : IntKind.i64.wrap x = x := by rw [IntKind.wrap_i64]; omega
end Go.Proofs.YthkjfepbmnabkaaDoor.Sx
