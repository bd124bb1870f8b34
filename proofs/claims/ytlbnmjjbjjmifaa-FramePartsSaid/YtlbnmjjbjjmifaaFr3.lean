/- Readers: the program's and the reference's. -/
import Derived.Test.YtlbnmjjbjjmifaaFr2
namespace Go.Proofs.Ytlbnmjjbjjmifaa.Sx
open Go
attribute [local irreducible] Calls

/-- An object of two cells, the first a row of bytes that is its own. -/
def objRow (ty : TypeId) (b : Nat) (A : Option Addr) (l : List UInt8) (c : Nat) (x : Value) : Fact where
  own := true
  D := fun k => k = b ∨ (browF ty_uint8 A l c).D k
  p := fun w => w.heap[b]? = some (.cells #[.slice A l.length c, x] ty (0, 0)) ∧ (browF ty_uint8 A l c).p w ∧ ¬ (browF ty_uint8 A l c).D b ∧ l.length ≤ c ∧ c ≤ maxLen
  st := fun w w' hs h => ⟨by rw [hs b (.inl rfl)]; exact h.1, (browF ty_uint8 A l c).st w w' (fun k hk => hs k (.inr hk)) h.2.1, h.2.2⟩
/-- The same, and its bytes are only read. -/
def objRd (ty : TypeId) (b : Nat) (A : Option Addr) (l : List UInt8) (c : Nat) (x : Value) : Fact where
  own := true
  D := fun k => k = b ∨ (bsF A l).D k
  p := fun w => w.heap[b]? = some (.cells #[.slice A l.length c, x] ty (0, 0)) ∧ (bsF A l).p w ∧ ¬ (bsF A l).D b ∧ l.length ≤ c ∧ c ≤ maxLen
  st := fun w w' hs h => ⟨by rw [hs b (.inl rfl)]; exact h.1, (bsF A l).st w w' (fun k hk => hs k (.inr hk)) h.2.1, h.2.2⟩
/-- What a call leaves of an owned thing. -/
def Aft (f f' : Fact) (w w' : World) : Prop := Chg f.D w w' ∧ f'.p w' ∧ ∀ k, f'.D k → f.D k ∨ (w.heap.size ≤ k ∧ k < w'.heap.size)

section
variable {cx : Cx} {β : Va} {n : Nat} {H : List Bk} {F : List Fact} {w w' : World} {ty : TypeId} {b : Nat} {A : Option Addr} {l : List UInt8} {c : Nat} {x : Value}
theorem blk_lt {o : Obj} (h : w.heap[b]? = some o) : b < w.heap.size := (Array.getElem?_eq_some_iff.1 h).1
theorem objRow.lt (h : (objRow ty b A l c x).p w) : ∀ k, (objRow ty b A l c x).D k → k < w.heap.size := by
  rintro k (rfl | hk)
  · exact blk_lt h.1
  · exact (h.2.1.lt k hk).2
theorem objRd.lt (h : (objRd ty b A l c x).p w) : ∀ k, (objRd ty b A l c x).D k → k < w.heap.size := by
  rintro k (rfl | hk)
  · exact blk_lt h.1
  · exact rd_lt h.2.1 k hk

theorem objRow.start (h : Sat cx β n [] F w) (hn : 0 < n) (hp : (objRow ty b A l c x).p w) (hbs : cx.bs = [b]) (hS : cx.S = (objRow ty b A l c x).D) (hF : ∀ g ∈ F, ∀ k, (objRow ty b A l c x).D k → ¬ g.D k) (hpp : β.pins = [] := by rfl) :
    Sat cx β n [⟨0, ty, [.v (.slice A l.length c), .v x]⟩] (browF ty_uint8 A l c :: F) w := by
  have hb : β 0 = b := by have := h.fix.2 0 (by rw [hbs]; exact Nat.zero_lt_one); rw [hbs] at this; exact this
  have h1 : Sat cx β n [] (browF ty_uint8 A l c :: F) w := h.old _ hp.2.1 (fun k hk => (hp.2.1.lt k hk).2) (fun _ q => by cases q) (fun _ k hk => .inl (by rw [hS]; exact .inr hk)) (fun g hg _ k hk => hF g hg k (.inr hk)) (by rw [hpp]; exact fun _ h => absurd h List.not_mem_nil)
  refine h1.oldBk hn rfl ?_ (.inl (by rw [hS, hb]; exact .inl rfl)) ?_
  · rw [hb]; exact hp.1
  · intro f hf
    rw [hb]
    rcases List.mem_cons.1 hf with rfl | hf
    · exact hp.2.2.1
    · exact hF f hf b (.inl rfl)
theorem objRd.start (h : Sat cx β n [] F w) (hn : 0 < n) (hp : (objRd ty b A l c x).p w) (hbs : cx.bs = [b]) (hS : cx.S = (objRd ty b A l c x).D) (hF : ∀ g ∈ F, g.own = false ∧ ∀ k, (objRd ty b A l c x).D k → ¬ g.D k) (hpp : β.pins = [] := by rfl) :
    Sat cx β n [⟨0, ty, [.v (.slice A l.length c), .v x]⟩] (bsF A l :: F) w := by
  have hb : β 0 = b := by have := h.fix.2 0 (by rw [hbs]; exact Nat.zero_lt_one); rw [hbs] at this; exact this
  have h1 : Sat cx β n [] (bsF A l :: F) w := h.old _ hp.2.1 (rd_lt hp.2.1) (fun _ q => by cases q) (fun q => by cases q) (fun g hg q => q.elim (fun q => by cases q) (fun q => by rw [(hF g hg).1] at q; cases q)) (by rw [hpp]; exact fun _ h => absurd h List.not_mem_nil)
  refine h1.oldBk hn rfl ?_ (.inl (by rw [hS, hb]; exact .inl rfl)) ?_
  · rw [hb]; exact hp.1
  · intro f hf
    rw [hb]
    rcases List.mem_cons.1 hf with rfl | hf
    · exact hp.2.2.1
    · exact (hF f hf).2 b (.inl rfl)

theorem objRow.fin {f : Fact} (hs : Sat cx β n (⟨0, ty, [.v (.slice A l.length c), .v x]⟩ :: H) F w') (hW : cx.W0 = w) (hbs : cx.bs = [b]) (hS : cx.S = f.D) (j : Nat) (hj : nth F j = some (browF ty_uint8 A l c)) (h1 : l.length ≤ c) (h2 : c ≤ maxLen) :
    Aft f (objRow ty b A l c x) w w' := by
  have hb : β 0 = b := by have := hs.fix.2 0 (by rw [hbs]; exact Nat.zero_lt_one); rw [hbs] at this; exact this
  have hk := hs.blk _ List.mem_cons_self
  have hm := hs.mine _ List.mem_cons_self
  have hd := hs.sepb _ (List.mem_of_getElem? (by rw [← nth_eq]; exact hj)) _ List.mem_cons_self
  simp only [hb] at hk hm hd
  refine ⟨by rw [← hW, ← hS]; exact hs.chg, ⟨hk, hs.get j hj, hd, h1, h2⟩, ?_⟩
  rintro k (rfl | hk')
  · rw [← hS, ← hW]
    rcases hm with hm | hm
    · exact .inl hm
    · exact .inr ⟨hm, blk_lt hk⟩
  · rw [← hS, ← hW]
    rcases hs.getNew j hj rfl k hk' with q | q
    · exact .inl q
    · exact .inr ⟨q, hs.getLt j hj k hk'⟩
theorem objRow.fin' {f : Fact} {k : Nat} {xs : List Value} (hs : Sat cx β n (⟨0, ty, [.v (.slice A k c), .v x]⟩ :: H) F w') (hW : cx.W0 = w) (hbs : cx.bs = [b]) (hS : cx.S = f.D) (j : Nat) (hj : nth F j = some (rowF ty_uint8 1 (.slice A k c) k xs)) (hk : l.length = k) (hx : xs = l.map byte) (h1 : k ≤ c) (h2 : c ≤ maxLen) :
    Aft f (objRow ty b A l c x) w w' := by
  subst hk hx
  exact objRow.fin hs hW hbs hS j hj h1 h2
theorem objRd.fin {f : Fact} (hs : Sat cx β n (⟨0, ty, [.v (.slice A l.length c), .v x]⟩ :: H) F w') (hW : cx.W0 = w) (hbs : cx.bs = [b]) (hS : cx.S = f.D) (j : Nat) (hj : nth F j = some (bsF A l))
    (hD : ∀ k, (bsF A l).D k → f.D k ∨ w.heap.size ≤ k) (h1 : l.length ≤ c) (h2 : c ≤ maxLen) :
    Aft f (objRd ty b A l c x) w w' := by
  have hb : β 0 = b := by have := hs.fix.2 0 (by rw [hbs]; exact Nat.zero_lt_one); rw [hbs] at this; exact this
  have hk := hs.blk _ List.mem_cons_self
  have hm := hs.mine _ List.mem_cons_self
  have hd := hs.sepb _ (List.mem_of_getElem? (by rw [← nth_eq]; exact hj)) _ List.mem_cons_self
  simp only [hb] at hk hm hd
  refine ⟨by rw [← hW, ← hS]; exact hs.chg, ⟨hk, hs.get j hj, hd, h1, h2⟩, ?_⟩
  rintro k (rfl | hk')
  · rw [← hS, ← hW]
    rcases hm with hm | hm
    · exact .inl hm
    · exact .inr ⟨hm, blk_lt hk⟩
  · rcases hD k hk' with q | q
    · exact .inl q
    · exact .inr ⟨q, hs.getLt j hj k hk'⟩
end

section
variable {cx : Cx} {β : Va} {n : Nat} {H : List Bk} {F : List Fact} {w w' : World} {ty : TypeId} {b : Nat} {A : Option Addr} {l : List UInt8} {c : Nat} {x : Value}
/-- The same, its block being anywhere. -/
theorem objRow.fin2 {f : Fact} {k : Nat} {xs : List Value} (hs : Sat cx β n H F w') (i : Nat) (hi : nth H i = some ⟨0, ty, [.v (.slice A k c), .v x]⟩) (hW : cx.W0 = w) (hbs : cx.bs = [b]) (hS : cx.S = f.D) (j : Nat) (hj : nth F j = some (rowF ty_uint8 1 (.slice A k c) k xs)) (hk : l.length = k) (hx : xs = l.map byte) (h1 : k ≤ c) (h2 : c ≤ maxLen) :
    Aft f (objRow ty b A l c x) w w' :=
  objRow.fin' (H := []) (hs.weaken (List.singleton_sublist.2 (List.mem_of_getElem? (by rw [← nth_eq]; exact hi))) (List.Sublist.refl _)) hW hbs hS j hj hk hx h1 h2
/-- With no bytes. -/
theorem objRow.fin0 {f : Fact} (hs : Sat cx β n H F w') (i : Nat) (hi : nth H i = some ⟨0, ty, [.v (.slice none 0 0), .v x]⟩) (hW : cx.W0 = w) (hbs : cx.bs = [b]) (hS : cx.S = f.D) :
    Aft f (objRow ty b none [] 0 x) w w' := by
  have hs' := hs.weaken (H' := [⟨0, ty, [.v (.slice none 0 0), .v x]⟩]) (List.singleton_sublist.2 (List.mem_of_getElem? (by rw [← nth_eq]; exact hi))) (List.nil_sublist F)
  have hb : β 0 = b := by have := hs.fix.2 0 (by rw [hbs]; exact Nat.zero_lt_one); rw [hbs] at this; exact this
  have hk := hs'.blk _ List.mem_cons_self
  have hm := hs'.mine _ List.mem_cons_self
  simp only [hb] at hk hm
  refine ⟨by rw [← hW, ← hS]; exact hs.chg, ⟨hk, (NewRow.none w w' ty_uint8).2.2.1, (fun q => by cases q), Nat.le_refl _, Nat.zero_le _⟩, ?_⟩
  rintro k (rfl | hk')
  · rw [← hS, ← hW]
    rcases hm with hm | hm
    · exact .inl hm
    · exact .inr ⟨hm, blk_lt hk⟩
  · cases hk'
theorem mem_putAt' {α : Type} {l : List α} {j : Nat} {y x : α} (h : x ∈ putAt l j y) : x = y ∨ x ∈ l := mem_putAt h
theorem Sat.apartBk {f : Fact} (hs : Sat cx β n H F w) (hbs : cx.bs = [b]) (i : Nat) {cs : List SL} (hi : nth H i = some ⟨0, ty, cs⟩) (j : Nat) (hj : nth F j = some f) : ¬ f.D b := by
  have hb : β 0 = b := by have := hs.fix.2 0 (by rw [hbs]; exact Nat.zero_lt_one); rw [hbs] at this; exact this
  have := hs.sepb f (List.mem_of_getElem? (by rw [← nth_eq]; exact hj)) _ (List.mem_of_getElem? (by rw [← nth_eq]; exact hi))
  rw [← hb]
  exact this
theorem Sat.apart' {f g : Fact} (hs : Sat cx β n H F w) (i j : Nat) (hi : nth F i = some f) (hj : nth F j = some g) (hne : i ≠ j) (ho : f.own = true ∨ g.own = true) : ∀ k, f.D k → ¬ g.D k :=
  hs.apart (by rw [← nth_eq]; exact hi) (by rw [← nth_eq]; exact hj) hne ho
theorem objRd.finG {f : Fact} {k : Nat} (hs : Sat cx β n H F w') (i : Nat) (hi : nth H i = some ⟨0, ty, [.v (.slice A k c), .v x]⟩) (hk : l.length = k) (hW : cx.W0 = w) (hbs : cx.bs = [b]) (hS : cx.S = f.D)
    (hrd : Bs w' A l) (hnb : ¬ (bsF A l).D b) (hD : ∀ k, (bsF A l).D k → f.D k ∨ w.heap.size ≤ k) (h1 : l.length ≤ c) (h2 : c ≤ maxLen) :
    Aft f (objRd ty b A l c x) w w' := by
  subst hk
  have hb : β 0 = b := by have := hs.fix.2 0 (by rw [hbs]; exact Nat.zero_lt_one); rw [hbs] at this; exact this
  have hmem := List.mem_of_getElem? (by rw [← nth_eq]; exact hi)
  have hk := hs.blk _ hmem
  have hm := hs.mine _ hmem
  simp only [hb] at hk hm
  refine ⟨by rw [← hW, ← hS]; exact hs.chg, ⟨hk, hrd, hnb, h1, h2⟩, ?_⟩
  rintro k (rfl | hk')
  · rw [← hS, ← hW]
    rcases hm with hm | hm
    · exact .inl hm
    · exact .inr ⟨hm, blk_lt hk⟩
  · rcases hD k hk' with q | q
    · exact .inl q
    · exact .inr ⟨q, rd_lt hrd k hk'⟩
/-- Its bytes being a row of the state. -/
theorem objRd.finR {f : Fact} {k : Nat} {xs : List Value} (hs : Sat cx β n H F w') (i : Nat) (hi : nth H i = some ⟨0, ty, [.v (.slice A k c), .v x]⟩) (hW : cx.W0 = w) (hbs : cx.bs = [b]) (hS : cx.S = f.D)
    (j : Nat) (hj : nth F j = some (rowF ty_uint8 1 (.slice A k c) k xs)) (hk : l.length = k) (hx : xs = l.map byte) (h1 : k ≤ c) (h2 : c ≤ maxLen) :
    Aft f (objRd ty b A l c x) w w' := by
  subst hk hx
  have hsub : ∀ k, (bsF A l).D k → (browF ty_uint8 A l c).D k := by
    rintro k ⟨_, ad, rfl, rfl⟩
    rfl
  refine objRd.finG hs i hi rfl hW hbs hS (row_rd (hs.get j hj)) (fun q => hs.apartBk hbs i hi j hj (hsub _ q)) (fun k hk => ?_) h1 h2
  rw [← hS, ← hW]
  exact hs.getNew j hj rfl k (hsub k hk)
/-- Behind a call that changed an owned thing and made another. -/
theorem Sat.updAdd (h : Sat cx β n H F w) {j : Nat} {f f' : Fact} (hj : nth F j = some f) (hown : f.own = true) (ha : Aft f f' w w') (g : Fact) (hg : g.p w') (hD : ∀ k, g.D k → w.heap.size ≤ k ∧ k < w'.heap.size) (hd : ∀ k, g.D k → ¬ f'.D k) :
    Sat cx β n H (g :: putAt F j f') w' := by
  have h1 : Sat cx β n H (putAt F j f') w' := h.upd hj hown ha.1 ha.2.1 ha.2.2
  refine h1.old g hg (fun k hk => (hD k hk).2) (fun b hb q => ?_) (fun _ k hk => .inr (Nat.le_trans h.chg.size (hD k hk).1)) (fun f2 hf2 _ k hk q => ?_) ?_
  · have := (hD _ q).1; have := h.lt hb; omega
  · rcases mem_putAt hf2 with rfl | hf2
    · exact hd k hk q
    · have := h.flt f2 hf2 k q; have := (hD k hk).1; omega
  · intro p hp q; have := h.pinLt hp; have := (hD _ q).1; omega
end

/-! ### what a Reader does -/
def feedN (l : List UInt8) (bad : Int) (m : List UInt8) : Nat := if bad = 0 then min m.length (8192 - l.length) else 0
/-- What Next leaves: bytes, and what broke it. -/
def nextS (l : List UInt8) (bad : Int) : List UInt8 × Int :=
  if bad = 0 then (if (unpackF l).2.2.2 = 0 then (l.drop (unpackF l).2.2.1, 0) else if (unpackF l).2.2.2 = 2 then (l, 0) else ([], ((unpackF l).2.2.2 : Int))) else (l, bad)
def nextF (l : List UInt8) (bad : Int) : UInt8 × List UInt8 × Int := if bad = 0 then ((unpackF l).1, (unpackF l).2.1, ((unpackF l).2.2.2 : Int)) else (0, [], bad)

abbrev rdr (b : Nat) (A : Option Addr) (l : List UInt8) (c : Nat) (bad : Int) : Fact := objRow ty_frame_Reader b A l c (.int .i64 bad)
abbrev rrdr (b : Nat) (A : Option Addr) (l : List UInt8) (c : Nat) (bad : Int) : Fact := objRd ty_ostiaryref06_Reader b A l c (.int .i64 bad)

theorem feedN_le (l : List UInt8) (bad : Int) (m : List UInt8) : feedN l bad m ≤ m.length := by unfold feedN; split <;> omega

theorem feed_c (w : World) (b : Nat) (A : Option Addr) (l : List UInt8) (c : Nat) (bad : Int) (B : Option Addr) (m : List UInt8) (d : Nat) (hr : (rdr b A l c bad).p w) (hB : Bs w B m) (hmd : m.length ≤ d)
    (hsep : ∀ k, (rdr b A l c bad).D k → ¬ (bsF B m).D k) (hl : l.length ≤ 8192) :
    Calls Try.prog n_frame_Reader_Feed #[.pointer (some ⟨b, 0, none⟩), .slice B m.length d] w fun e w' => ∃ v, e = .returned v ∧ v = .int .i64 (feedN l bad m) ∧
      ∃ A' c', Aft (rdr b A l c bad) (rdr b A' (l ++ m.take (feedN l bad m)) c' bad) w w' := by
  have g := good_frame_Reader_Feed w (rdr b A l c bad).D [b]
  have h0 : Sat (cx_frame_Reader_Feed w (rdr b A l c bad).D [b]) (Va.of fun i => [b].getD i 0) 1 [] [bsF B m] w :=
    (Sat.startB rfl (Nat.le_refl 1) (fun _ _ => rfl)).rd (fun _ h => by cases h) hB
  refine calls_of_sx (cx := cx_frame_Reader_Feed w (rdr b A l c bad).D [b]) g b_frame_Reader_Feed rfl rfl (β := Va.of fun i => [b].getD i 0) [.c (.p 0 0), .c (.v (.slice B m.length d))] 1 _ _ rfl rfl
    (objRow.start h0 Nat.zero_lt_one hr rfl rfl (fun g hg k hk => by obtain rfl := List.mem_singleton.1 hg; exact hsep k hk)) ?_
  refine BIf.not (BIf.dec (fun hb => ?_) (fun hb => ?_))
  · subst hb
    have hk : feedN l 0 m = min m.length (8192 - l.length) := rfl
    refine ⟨((8192 - l.length : Nat) : Int), by rw [wrap_i64 (by omega) (by omega)]; omega, ?_⟩
    refine ⟨_, mn _ _, ?_⟩
    rw [← hk]
    have hkl := feedN_le l 0 m
    refine draw_rule g p_frame_Reader_Feed_4 (by kernel_rfl) [] [bsF B m] (Sub.of (List.nil_sublist _) (List.sublist_cons_self _ _)) ?_
    refine ⟨d, feedN l 0 m, 0, feedN l 0 m, d, _, rfl, rfl, rfl, Nat.le_refl _, by omega, Nat.zero_le _, by omega, rfl, rfl, ?_⟩
    refine ⟨Sub.of (List.nil_sublist _) (List.sublist_cons_self _ _), ?_⟩
    have htl : (m.take (feedN l 0 m)).length = feedN l 0 m := by simp; omega
    have hll : (l ++ m.take (feedN l 0 m)).length = l.length + feedN l 0 m := by rw [List.length_append, htl]
    refine ⟨0, l.length, l.length + feedN l 0 m, _, (m.take (feedN l 0 m)).map byte, _, rfl, fun β w hs => ?_, bytes_one _, rfl, rfl, by rw [maxLen_eq]; omega, by show (l.length + feedN l 0 m) * 1 ≤ _; omega, ?_⟩
    · have h1 := Bs.cutB (hs.get 1 rfl : Bs w B m) (i := 0) (j := feedN l 0 m) hmd (Nat.zero_le _) hkl rfl
      have h2 : Rd 1 (cutA B d 0 1) (m.take (feedN l 0 m)).length ((m.take (feedN l 0 m)).map byte) w := h1
      rw [htl] at h2
      exact h2
    intro A' c' h1 h2 h3
    refine ⟨Sub.of (List.nil_sublist _) (List.sublist_cons_self _ _), ?_⟩
    refine ⟨Sub.of (List.nil_sublist _) (List.sublist_cons_self _ _), ?_⟩
    intro β w' hs
    refine ⟨rfl, A', c', ?_⟩
    exact objRow.fin' (H := []) hs rfl rfl rfl 0 rfl hll (by rw [List.map_append]) h1 h2
  · intro β w' hs
    have hk : feedN l bad m = 0 := by unfold feedN; rw [if_neg hb]
    rw [hk]
    refine ⟨rfl, A, c, ?_⟩
    rw [List.take_zero, List.append_nil]
    exact objRow.fin hs rfl rfl rfl 0 rfl hr.2.2.2.1 hr.2.2.2.2
theorem unpackF_spec (l : List UInt8) : ((unpackF l).2.2.2 = 0 ∧ 3 ≤ (unpackF l).2.2.1 ∧ (unpackF l).2.2.1 ≤ l.length) ∨ (unpackF l).2.2.2 = 1 ∨ (unpackF l).2.2.2 = 2 ∨ (unpackF l).2.2.2 = 3 := by
  unfold unpackF
  split
  · rename_i x y z r
    split
    · exact .inr (.inl rfl)
    · split
      · exact .inr (.inr (.inr rfl))
      · split
        · exact .inr (.inr (.inl rfl))
        · left
          refine ⟨rfl, by show 3 ≤ 3 + _; omega, by show 3 + _ ≤ (_ :: _ :: _ :: _).length; simp only [List.length_cons]; omega⟩
  · exact .inr (.inr (.inl rfl))

theorem next_c (w : World) (b : Nat) (A : Option Addr) (l : List UInt8) (c : Nat) (bad : Int) (hr : (rdr b A l c bad).p w) (hl : l.length ≤ 8192) :
    Calls Try.prog n_frame_Reader_Next #[.pointer (some ⟨b, 0, none⟩)] w fun e w' => ∃ v, e = .returned v ∧ ∃ A2 c2 A' c', v = .tuple #[frameV (nextF l bad).1 A2 (nextF l bad).2.1 c2, .int .i64 (nextF l bad).2.2] ∧
      NewRow w w' A2 (nextF l bad).2.1 c2 ty_uint8 ∧ Aft (rdr b A l c bad) (rdr b A' (nextS l bad).1 c' (nextS l bad).2) w w' ∧ ∀ k, (browF ty_uint8 A2 (nextF l bad).2.1 c2).D k → ¬ (rdr b A' (nextS l bad).1 c' (nextS l bad).2).D k := by
  have g := good_frame_Reader_Next w (rdr b A l c bad).D [b]
  have h0 : Sat (cx_frame_Reader_Next w (rdr b A l c bad).D [b]) (Va.of fun i => [b].getD i 0) 1 [] [] w := Sat.startB rfl (Nat.le_refl 1) (fun _ _ => rfl)
  refine calls_of_sx (cx := cx_frame_Reader_Next w (rdr b A l c bad).D [b]) g b_frame_Reader_Next rfl rfl (β := Va.of fun i => [b].getD i 0) [.c (.p 0 0)] 1 _ _ rfl rfl
    (objRow.start h0 Nat.zero_lt_one hr rfl rfl (fun g hg k hk => by cases hg)) ?_
  refine BIf.not (BIf.dec (fun hb => ?_) (fun hb => ?_))
  · subst hb
    intro β w1 hs1
    have hsp := unpackF_spec l
    have e1 : nextF l 0 = ((unpackF l).1, (unpackF l).2.1, ((unpackF l).2.2.2 : Int)) := rfl
    have e2 : nextS l 0 = if (unpackF l).2.2.2 = 0 then (l.drop (unpackF l).2.2.1, 0) else if (unpackF l).2.2.2 = 2 then (l, 0) else ([], ((unpackF l).2.2.2 : Int)) := rfl
    refine (unpack_c _ A l c (row_rd (hs1.get 0 rfl)) hr.2.2.2.1 (by rw [lim_eq]; omega)).mono ?_
    rintro e w2 ⟨v, rfl, A1, c1, rfl, hc, hn⟩
    have hnew : ∀ k, (browF ty_uint8 A1 (unpackF l).2.1 c1).D k → w.heap.size ≤ k := fun k hk => Nat.le_trans hs1.chg.size (hn.2.2.2 k hk)
    refine ⟨_, rfl, Ret.mk _ _ (hs1.addRow hc hn) ?_⟩
    rw [e1, e2]
    generalize unpackF l = u at *
    obtain ⟨k, p, nn, e⟩ := u
    simp only at *
    refine BIf.dec (fun h0 => ?_) (fun h0 => ?_)
    · have h0 : e = 0 := by omega
      subst h0
      have hnn : nn ≤ l.length := by omega
      rw [if_pos rfl]
      refine ⟨c, l.length, nn, (l.drop nn).length, c - nn, _, rfl, rfl, rfl, Nat.le_refl _, hr.2.2.2.1, hnn, by simp, rfl, rfl, ?_⟩
      intro β w3 hs3
      have hcut : Bs w3 (cutA A c nn 1) (l.drop nn) :=
        Bs.cutB (row_rd (hs3.get 1 rfl) : Bs w3 A l) (j := l.length) hr.2.2.2.1 hnn (Nat.le_refl _) (by rw [← List.length_drop, List.take_length])
      refine (clone_c _ _ _ (c - nn) hcut (by rw [lim_eq]; simp; omega)).mono ?_
      rintro e w4 ⟨v, rfl, A4, c4, rfl, hc4, hn4⟩
      refine ⟨_, rfl, Ret.mk _ _ (hs3.addRow hc4 hn4) ?_⟩
      intro β w' hs
      refine ⟨A1, c1, A4, c4, rfl, ⟨hn.1, hn.2.1, hs.get 1 rfl, hnew⟩, objRow.fin2 hs 2 rfl rfl rfl rfl 0 rfl rfl rfl hn4.1 hn4.2.1, ?_⟩
      rintro j hj (rfl | hj')
      · exact hs.apartBk rfl 2 rfl 1 rfl hj
      · exact hs.apart' 1 0 rfl rfl (by decide) (.inl rfl) j hj hj'
    · rw [if_neg (by omega)]
      have hbad : ∀ {β n H F w'}, Sat (cx_frame_Reader_Next w (rdr b A l c 0).D [b]) β n H F w' → (∃ i, nth H i = some ⟨0, ty_frame_Reader, [.v (.slice none 0 0), .v (.int .i64 e)]⟩) → (∃ i, nth F i = some (browF ty_uint8 A1 p c1)) → e ≠ 2 →
          ∃ A2 c2 A' c', Value.tuple #[frameV k A1 p c1, .int .i64 e] = .tuple #[frameV k A2 p c2, .int .i64 e] ∧ NewRow w w' A2 p c2 ty_uint8 ∧
            Aft (rdr b A l c 0) (rdr b A' (if e = 2 then (l, (0 : Int)) else ([], (e : Int))).1 c' (if e = 2 then (l, (0 : Int)) else ([], (e : Int))).2) w w' ∧ ∀ j, (browF ty_uint8 A2 p c2).D j → ¬ (rdr b A' (if e = 2 then (l, (0 : Int)) else ([], (e : Int))).1 c' (if e = 2 then (l, (0 : Int)) else ([], (e : Int))).2).D j := by
        rintro β n H F w' hs ⟨i, hi⟩ ⟨j, hj⟩ he
        rw [if_neg he]
        refine ⟨A1, c1, none, 0, rfl, ⟨hn.1, hn.2.1, hs.get j hj, hnew⟩, objRow.fin0 hs i hi rfl rfl rfl, ?_⟩
        rintro q hq (rfl | hq')
        · exact hs.apartBk rfl i hi j hj hq
        · cases hq'
      refine BIf.dec (fun h1 => BIf.dec (fun _ => ?_) (fun q => absurd h1 q)) (fun h1 => BIf.dec (fun h3 => ?_) (fun h3 => ?_))
      · intro β w' hs
        exact hbad hs ⟨2, rfl⟩ ⟨0, rfl⟩ (by omega)
      · intro β w' hs
        exact hbad hs ⟨2, rfl⟩ ⟨0, rfl⟩ (by omega)
      · intro β w' hs
        have he : e = 2 := by omega
        rw [if_pos he]
        refine ⟨A1, c1, A, c, rfl, ⟨hn.1, hn.2.1, hs.get 0 rfl, hnew⟩, objRow.fin2 hs 2 rfl rfl rfl rfl 1 rfl rfl rfl hr.2.2.2.1 hr.2.2.2.2, ?_⟩
        rintro q hq (rfl | hq')
        · exact hs.apartBk rfl 2 rfl 0 rfl hq
        · exact hs.apart' 0 1 rfl rfl (by decide) (.inl rfl) q hq hq'
  · refine draw_rule g p_frame_Reader_Next_4 (by kernel_rfl) [⟨0, ty_frame_Reader, [.v (.slice A l.length c), .v (.int .i64 bad)]⟩] [browF ty_uint8 A l c] (Sub.of (List.sublist_cons_self _ _) (List.Sublist.refl _)) ?_
    refine ⟨Sub.of (List.sublist_cons_self _ _) (List.Sublist.refl _), ?_⟩
    intro β w' hs
    have e1 : nextF l bad = (0, [], bad) := by unfold nextF; rw [if_neg hb]
    have e2 : nextS l bad = (l, bad) := by unfold nextS; rw [if_neg hb]
    rw [e1, e2]
    exact ⟨none, 0, A, c, rfl, NewRow.none _ _ _, objRow.fin2 hs 1 rfl rfl rfl rfl 0 rfl rfl rfl hr.2.2.2.1 hr.2.2.2.2, fun k hk => by cases hk⟩

/-- The same, only read. -/
def roF (f : Fact) : Fact := { f with own := false }
theorem Sat.ro {cx : Cx} {β : Va} {n : Nat} {F : List Fact} {w : World} (h : Sat cx β n [] F w) (hF : ∀ g ∈ F, g.own = false) {f : Fact} (hr : f.p w) (hlt : ∀ k, f.D k → k < w.heap.size) (hpp : β.pins = [] := by rfl) : Sat cx β n [] (roF f :: F) w :=
  h.old (roF f) hr hlt (fun _ hb => by cases hb) (fun q => by cases q) (fun g hg ho => ho.elim (fun q => by cases q) (fun q => by rw [hF g hg] at q; cases q)) (by rw [hpp]; exact fun _ h => absurd h List.not_mem_nil)
theorem obj_cell {w : World} {b : Nat} {x y : Value} {ty : TypeId} (h : w.heap[b]? = some (.cells #[x, y] ty (0, 0))) : w.cell? ⟨b, 0, none⟩ = some x ∧ w.cell? ⟨b, 1, none⟩ = some y := by
  constructor <;> simp [World.cell?, h]

theorem broken_c (w : World) (b : Nat) (A : Option Addr) (l : List UInt8) (c : Nat) (bad : Int) (hr : (rdr b A l c bad).p w) :
    Calls Try.prog n_frame_Reader_Broken #[.pointer (some ⟨b, 0, none⟩)] w fun e w' => ∃ v, e = .returned v ∧ v = .int .i64 bad ∧ Chg None_ w w' := by
  refine calls_of_sx (cx := cx_frame_Reader_Broken w None_) (good_frame_Reader_Broken w None_) b_frame_Reader_Broken rfl rfl (β := Va.z) [.c (.v (.pointer (some ⟨b, 0, none⟩)))] 0 [] _ rfl rfl ((Sat.start rfl).ro (fun _ h => by cases h) hr (objRow.lt hr)) ?_
  refine ⟨.int .i64 bad, fun β w hs => (obj_cell (show (rdr b A l c bad).p w from hs.get (f := roF _) 0 rfl).1).2, ?_⟩
  intro β w' hs
  exact ⟨rfl, hs.chg⟩
theorem waiting_c (w : World) (b : Nat) (A : Option Addr) (l : List UInt8) (c : Nat) (bad : Int) (hr : (rdr b A l c bad).p w) :
    Calls Try.prog n_frame_Reader_Waiting #[.pointer (some ⟨b, 0, none⟩)] w fun e w' => ∃ v, e = .returned v ∧ v = .int .i64 l.length ∧ Chg None_ w w' := by
  refine calls_of_sx (cx := cx_frame_Reader_Waiting w None_) (good_frame_Reader_Waiting w None_) b_frame_Reader_Waiting rfl rfl (β := Va.z) [.c (.v (.pointer (some ⟨b, 0, none⟩)))] 0 [] _ rfl rfl ((Sat.start rfl).ro (fun _ h => by cases h) hr (objRow.lt hr)) ?_
  refine ⟨.slice A l.length c, fun β w hs => (obj_cell (show (rdr b A l c bad).p w from hs.get (f := roF _) 0 rfl).1).1, ?_⟩
  intro β w' hs
  exact ⟨rfl, hs.chg⟩
theorem newReader_c (w : World) :
    Calls Try.prog n_frame_NewReader #[] w fun e w' => ∃ v, e = .returned v ∧ ∃ b, v = .pointer (some ⟨b, 0, none⟩) ∧ Chg None_ w w' ∧ (rdr b none [] 0 0).p w' ∧ ∀ k, (rdr b none [] 0 0).D k → w.heap.size ≤ k ∧ k < w'.heap.size := by
  refine calls_of_sx (cx := cx_frame_NewReader w None_) (good_frame_NewReader w None_) b_frame_NewReader rfl rfl (β := Va.z) [] 0 [] _ rfl rfl (Sat.start rfl) ?_
  intro β w' hs
  have hk := hs.blk _ List.mem_cons_self
  have hm := hs.mine _ List.mem_cons_self
  refine ⟨β 0, rfl, hs.chg, ⟨hk, (NewRow.none w w' ty_uint8).2.2.1, (fun q => by cases q), Nat.le_refl _, Nat.zero_le _⟩, ?_⟩
  rintro k (rfl | hk')
  · exact ⟨hm.elim (fun q => q.elim) id, blk_lt hk⟩
  · cases hk'

/-! ### the reference's -/
theorem rfeed_c (w : World) (b : Nat) (A : Option Addr) (l : List UInt8) (c : Nat) (bad : Int) (B : Option Addr) (m : List UInt8) (d : Nat) (hr : (rrdr b A l c bad).p w) (hB : Bs w B m) (hmd : m.length ≤ d)
    (hsep : ∀ k, (rrdr b A l c bad).D k → ¬ (bsF B m).D k) (hl : l.length ≤ 8192) :
    Calls Try.prog n_ostiaryref06_Feed #[.pointer (some ⟨b, 0, none⟩), .slice B m.length d] w fun e w' => ∃ v, e = .returned v ∧ v = .int .i64 (feedN l bad m) ∧
      ∃ A' c', Aft (rrdr b A l c bad) (rrdr b A' (l ++ m.take (feedN l bad m)) c' bad) w w' := by
  have g := good_ostiaryref06_Feed w (rrdr b A l c bad).D [b]
  have h0 : Sat (cx_ostiaryref06_Feed w (rrdr b A l c bad).D [b]) (Va.of fun i => [b].getD i 0) 1 [] [bsF B m] w :=
    (Sat.startB rfl (Nat.le_refl 1) (fun _ _ => rfl)).rd (fun _ h => by cases h) hB
  refine calls_of_sx (cx := cx_ostiaryref06_Feed w (rrdr b A l c bad).D [b]) g b_ostiaryref06_Feed rfl rfl (β := Va.of fun i => [b].getD i 0) [.c (.p 0 0), .c (.v (.slice B m.length d))] 1 _ _ rfl rfl
    (objRd.start h0 Nat.zero_lt_one hr rfl rfl (fun g hg => by obtain rfl := List.mem_singleton.1 hg; exact ⟨rfl, hsep⟩)) ?_
  refine BIf.not (BIf.dec (fun hb => ?_) (fun hb => ?_))
  · subst hb
    have hk : feedN l 0 m = min m.length (8192 - l.length) := rfl
    have hkl := feedN_le l 0 m
    refine loop_rule 1 (fun k : Nat => [(0, .c (.p 0 0)), (1, .c (.v (.slice B m.length d))), (5, .c (.v (.int .i64 k)))]) (fun _ => [⟨0, ty_ostiaryref06_Reader, [.v (.slice A l.length c), .v (.int .i64 0)]⟩]) (fun _ => [bsF A l, bsF B m])
      (fun k => k ≤ feedN l 0 m) (fun k => m.length - k) 0 (Nat.zero_le _) (Ent.same ⟨rfl, rfl, rfl, trivial⟩ rfl) g ?_
    intro k hkm
    refine BIf.dec (fun h1 => ?go) (fun h1 => ?fin1)
    case' go =>
      obtain ⟨r, hr1, hr2⟩ : ∃ r : Int, IntKind.i64.wrap (↑l.length + ↑k) = r ∧ r = l.length + k := ⟨_, rfl, by rw [wrap_i64 (by omega) (by omega)]⟩
      refine ⟨r, hr1, ?_⟩
      refine BIf.dec (fun h2 => ?go2) (fun h2 => ?fin2)
      case' go2 =>
        refine ⟨((k + 1 : Nat) : Int), by rw [wrap_i64 (by omega) (by omega)]; rfl, ?_⟩
        exact ⟨k + 1, by omega, by omega, Ent.same ⟨rfl, rfl, rfl, trivial⟩ rfl⟩
    all_goals
      obtain rfl : k = feedN l 0 m := by omega
      refine draw_rule g p_ostiaryref06_Feed_6 (by kernel_rfl) [] [bsF A l, bsF B m] (Sub.of (List.nil_sublist _) (List.Sublist.refl _)) ?_
      refine ⟨d, feedN l 0 m, 0, feedN l 0 m, d, _, rfl, rfl, rfl, Nat.le_refl _, by omega, Nat.zero_le _, by omega, rfl, rfl, ?_⟩
      refine ⟨Sub.of (List.nil_sublist _) (List.Sublist.refl _), ?_⟩
      intro β w1 hs1
      refine (copy_c _ A l c (hs1.get 0 rfl) (by rw [lim_eq]; omega)).mono ?_
      rintro e w2 ⟨v, rfl, A1, c1, rfl, hc, hn⟩
      refine ⟨_, rfl, Ret.mk _ _ (hs1.addRow hc hn) ?_⟩
      refine ⟨Sub.of (List.nil_sublist _) (List.sublist_cons_self _ _), ?_⟩
      have htl : (m.take (feedN l 0 m)).length = feedN l 0 m := by simp; omega
      have hll : (l ++ m.take (feedN l 0 m)).length = l.length + feedN l 0 m := by rw [List.length_append, htl]
      refine ⟨0, l.length, l.length + feedN l 0 m, _, (m.take (feedN l 0 m)).map byte, _, rfl, fun β w hs => ?_, bytes_one _, rfl, rfl, by rw [maxLen_eq]; omega, by show (l.length + feedN l 0 m) * 1 ≤ _; omega, ?_⟩
      · have h1 := Bs.cutB (hs.get 2 rfl : Bs w B m) (i := 0) (j := feedN l 0 m) hmd (Nat.zero_le _) hkl rfl
        have h2 : Rd 1 (cutA B d 0 1) (m.take (feedN l 0 m)).length ((m.take (feedN l 0 m)).map byte) w := h1
        rw [htl] at h2
        exact h2
      intro A' c' q1 q2 q3
      refine ⟨Sub.of (List.nil_sublist _) (List.sublist_cons_self _ _), ?_⟩
      refine ⟨Sub.of (List.nil_sublist _) (List.sublist_cons_self _ _), ?_⟩
      intro β w' hs
      refine ⟨rfl, A', c', ?_⟩
      exact objRd.finR hs 0 rfl rfl rfl rfl 0 rfl hll (by rw [List.map_append]) q1 q2
  · intro β w' hs
    have hk : feedN l bad m = 0 := by unfold feedN; rw [if_neg hb]
    rw [hk]
    refine ⟨rfl, A, c, ?_⟩
    rw [List.take_zero, List.append_nil]
    exact objRd.fin hs rfl rfl rfl 0 rfl (fun k hk => .inl (.inr hk)) hr.2.2.2.1 hr.2.2.2.2
theorem rnext_c (w : World) (b : Nat) (A : Option Addr) (l : List UInt8) (c : Nat) (bad : Int) (hr : (rrdr b A l c bad).p w) (hl : l.length ≤ 8192) :
    Calls Try.prog n_ostiaryref06_Next #[.pointer (some ⟨b, 0, none⟩)] w fun e w' => ∃ v, e = .returned v ∧ ∃ A2 c2 A' c', v = .tuple #[frameV (nextF l bad).1 A2 (nextF l bad).2.1 c2, .int .i64 (nextF l bad).2.2] ∧
      NewRow w w' A2 (nextF l bad).2.1 c2 ty_uint8 ∧ Aft (rrdr b A l c bad) (rrdr b A' (nextS l bad).1 c' (nextS l bad).2) w w' ∧ ∀ k, (browF ty_uint8 A2 (nextF l bad).2.1 c2).D k → ¬ (rrdr b A' (nextS l bad).1 c' (nextS l bad).2).D k := by
  have g := good_ostiaryref06_Next w (rrdr b A l c bad).D [b]
  have h0 : Sat (cx_ostiaryref06_Next w (rrdr b A l c bad).D [b]) (Va.of fun i => [b].getD i 0) 1 [] [] w := Sat.startB rfl (Nat.le_refl 1) (fun _ _ => rfl)
  refine calls_of_sx (cx := cx_ostiaryref06_Next w (rrdr b A l c bad).D [b]) g b_ostiaryref06_Next rfl rfl (β := Va.of fun i => [b].getD i 0) [.c (.p 0 0)] 1 _ _ rfl rfl
    (objRd.start h0 Nat.zero_lt_one hr rfl rfl (fun g hg => by cases hg)) ?_
  refine BIf.not (BIf.dec (fun hb => ?_) (fun hb => ?_))
  · subst hb
    intro β w1 hs1
    have hsp := unpackF_spec l
    have e1 : nextF l 0 = ((unpackF l).1, (unpackF l).2.1, ((unpackF l).2.2.2 : Int)) := rfl
    have e2 : nextS l 0 = if (unpackF l).2.2.2 = 0 then (l.drop (unpackF l).2.2.1, 0) else if (unpackF l).2.2.2 = 2 then (l, 0) else ([], ((unpackF l).2.2.2 : Int)) := rfl
    have e3 : (unpackF l).2.2.2 = 0 → restF l = l.drop (unpackF l).2.2.1 := fun h => by unfold restF; rw [if_pos h]
    have e4 : (unpackF l).2.2.2 ≠ 0 → restF l = [] := fun h => by unfold restF; rw [if_neg h]
    refine (runpack_c _ A l c (hs1.get 0 rfl) hr.2.2.2.1 hr.2.2.2.2 (by rw [lim_eq]; omega)).mono ?_
    rintro e w2 ⟨v, rfl, A1, c1, A3, c3, rfl, hc, hn, hr1, hr2, hrb, hrD⟩
    have hnew : ∀ k, (browF ty_uint8 A1 (unpackF l).2.1 c1).D k → w.heap.size ≤ k := fun k hk => Nat.le_trans hs1.chg.size (hn.2.2.2 k hk)
    have hs2 := hs1.addRow hc hn
    have hs3 := hs2.sub 1 rfl rfl (bsF A3 (restF l)) rfl hrb hrD
    refine ⟨_, rfl, Ret.mk _ _ hs3 ?_⟩
    rw [e1, e2]
    generalize unpackF l = u at *
    obtain ⟨k, p, nn, e⟩ := u
    simp only at *
    have hbad : ∀ {β n H F w'}, Sat (cx_ostiaryref06_Next w (rrdr b A l c 0).D [b]) β n H F w' → (∃ i, nth H i = some ⟨0, ty_ostiaryref06_Reader, [.v (.slice none 0 0), .v (.int .i64 e)]⟩) → (∃ i, nth F i = some (browF ty_uint8 A1 p c1)) → e ≠ 0 → e ≠ 2 →
        ∃ A2 c2 A' c', Value.tuple #[frameV k A1 p c1, .int .i64 e] = .tuple #[frameV k A2 p c2, .int .i64 e] ∧ NewRow w w' A2 p c2 ty_uint8 ∧
          Aft (rrdr b A l c 0) (rrdr b A' (if e = 0 then (l.drop nn, (0 : Int)) else if e = 2 then (l, (0 : Int)) else ([], (e : Int))).1 c' (if e = 0 then (l.drop nn, (0 : Int)) else if e = 2 then (l, (0 : Int)) else ([], (e : Int))).2) w w' ∧
          ∀ j, (browF ty_uint8 A2 p c2).D j → ¬ (rrdr b A' (if e = 0 then (l.drop nn, (0 : Int)) else if e = 2 then (l, (0 : Int)) else ([], (e : Int))).1 c' (if e = 0 then (l.drop nn, (0 : Int)) else if e = 2 then (l, (0 : Int)) else ([], (e : Int))).2).D j := by
      rintro β n H F w' hs ⟨i, hi⟩ ⟨j, hj⟩ he0 he
      rw [if_neg he0, if_neg he]
      refine ⟨A1, c1, none, 0, rfl, ⟨hn.1, hn.2.1, hs.get j hj, hnew⟩, objRd.finG hs i hi rfl rfl rfl rfl (Bs.nil _ _) (fun q => by simp [rdF] at q) (fun k hk => by simp [rdF] at hk) (Nat.le_refl _) (Nat.zero_le _), ?_⟩
      rintro q hq (rfl | hq')
      · exact hs.apartBk rfl i hi j hj hq
      · simp [rdF] at hq'
    refine BIf.dec (fun h0 => ?_) (fun h0 => ?_)
    · obtain rfl : e = 0 := by omega
      intro β w' hs
      have hrl := e3 rfl
      rw [if_pos rfl]
      generalize restF l = rr at *
      subst hrl
      refine ⟨A1, c1, A3, c3, rfl, ⟨hn.1, hn.2.1, hs.get 1 rfl, hnew⟩, objRd.finG hs 2 rfl rfl rfl rfl rfl (hs.get 0 rfl) (fun q => hr.2.2.1 (hrD _ q)) (fun k hk => .inl (.inr (hrD k hk))) hr1 hr2, ?_⟩
      rintro q hq (rfl | hq')
      · exact hs.apartBk rfl 2 rfl 1 rfl hq
      · exact hs.apart' 1 0 rfl rfl (by decide) (.inl rfl) q hq hq'
    · refine BIf.dec (fun h1 => ?_) (fun h1 => BIf.dec (fun h3 => ?_) (fun h3 => ?_))
      · intro β w' hs
        exact hbad hs ⟨2, rfl⟩ ⟨1, rfl⟩ (by omega) (by omega)
      · intro β w' hs
        exact hbad hs ⟨2, rfl⟩ ⟨1, rfl⟩ (by omega) (by omega)
      · intro β w' hs
        obtain rfl : e = 2 := by omega
        refine ⟨A1, c1, A, c, rfl, ⟨hn.1, hn.2.1, hs.get 1 rfl, hnew⟩, objRd.finG hs 2 rfl rfl rfl rfl rfl (hs.get 2 rfl) hr.2.2.1 (fun k hk => .inl (.inr hk)) hr.2.2.2.1 hr.2.2.2.2, ?_⟩
        rintro q hq (rfl | hq')
        · exact hs.apartBk rfl 2 rfl 1 rfl hq
        · exact hs.apart' 1 2 rfl rfl (by decide) (.inl rfl) q hq hq'
  · refine draw_rule g p_ostiaryref06_Next_4 (by kernel_rfl) [⟨0, ty_ostiaryref06_Reader, [.v (.slice A l.length c), .v (.int .i64 bad)]⟩] [bsF A l] (Sub.of (List.sublist_cons_self _ _) (List.Sublist.refl _)) ?_
    refine ⟨Sub.of (List.sublist_cons_self _ _) (List.Sublist.refl _), ?_⟩
    intro β w' hs
    have e1 : nextF l bad = (0, [], bad) := by unfold nextF; rw [if_neg hb]
    have e2 : nextS l bad = (l, bad) := by unfold nextS; rw [if_neg hb]
    rw [e1, e2]
    exact ⟨none, 0, A, c, rfl, NewRow.none _ _ _, objRd.finG hs 1 rfl rfl rfl rfl rfl (hs.get 0 rfl) hr.2.2.1 (fun k hk => .inl (.inr hk)) hr.2.2.2.1 hr.2.2.2.2, fun k hk => by cases hk⟩
end Go.Proofs.Ytlbnmjjbjjmifaa.Sx
