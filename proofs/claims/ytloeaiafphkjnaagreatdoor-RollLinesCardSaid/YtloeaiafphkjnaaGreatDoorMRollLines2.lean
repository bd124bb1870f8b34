/- Texts joined: SxUse, SxCon, SxOpen, U32, ShaL, NamL, SxRange, SxIt, SxPlus, SxArr, SxEff, Tab, R1, Be, Shelf, Bld, BoxL, Bk1, Hex, Sha1, Sha2, Sha3, Sha4, Sha5, Sha6, Sha7. -/
import Derived.Test.YtloeaiafphkjnaaGreatDoorMRollLines1
import Derived.ChangeSlices
import Derived.WideShapes
import Derived.Test.YtloeaiafphkjnaaGreatDoorProg
import Derived.Shelf.Strings.Builder1
import Derived.Shelf.Strings.Builder2
import Derived.Shelf.Strings.OnBuilder
import Derived.Shelf.Small.Bits
import Derived.Shelf.Small.Strs
import Derived.Shelf.Small.Wraps
import Derived.Shelf.Strings.BuilderF
import Derived.Shelf.Strings.BuilderK
import Derived.Shelf.Utf8.RuneCount
import Derived.Shelf.Strings.Builder2Cap
import Derived.Shelf.Strconv.Itoa0
import Derived.Shelf.Strconv.Itoa1
import Derived.Shelf.LaysM
import Derived.Shelf.Strconv.Itoa2
import Derived.Shelf.Strconv.Itoa3
import Derived.Shelf.Strconv.Clone
import Derived.Shelf.Strconv.SyntaxError
import Derived.Shelf.LaysC
import Derived.Shelf.Strconv.ToError
import Derived.Shelf.Strconv.Lower
import Derived.Shelf.Strconv.ParseUint10
import Derived.Shelf.Strconv.ParseUint10Empty
import Derived.Shelf.Strconv.ParseUint10Any
import Derived.Shelf.Strconv.RangeError
import Derived.Shelf.Strconv.ToErrorRange
import Derived.Shelf.Strconv.ParseUintEmpty
import Derived.Shelf.Strconv.ParseUint10b64
import Derived.Shelf.Strconv.ParseUint10b32
import Derived.Shelf.Strconv.ParseUint10b16
import Derived.Shelf.Strconv.ParseUint10b8
import Derived.Shelf.Strconv.ParseUint10At
import Derived.Shelf.Strings.Search1
import Derived.Shelf.Strings.Search2
import Derived.Shelf.Strings.Search3
import Derived.Shelf.Strings.Cut
import Derived.Shelf.Strings.Count
import Derived.Shelf.Strings.Shaped
import Derived.Shelf.Sort.Plain
import Derived.Shelf.Strings.Prefix
import Derived.Shelf.Strings.Split
import Derived.Shelf.Strings.SplitShaped
import Derived.Shelf.Unicode.Decode
import Derived.Shelf.Strings.RuneCount
import Derived.Shelf.Strings.Explode
import Derived.Shelf.Bits.Mul64
import Derived.Shelf.Strings.Repeat
import Derived.Shelf.Unicode.DecodeSlow
import Derived.Shelf.Unicode.DecodeAny
import Derived.Shelf.Strings.BuilderCap
import Derived.Shelf.Slices.Equal
import Derived.Ground.Names2Prog
import Derived.Shelf.Slices.ReverseS
import Derived.Shelf.Slices.Clone
import Derived.Shelf.Slices.Cells
import Derived.Shelf.Slices.In.SortNone
import Derived.Shelf.Slices.Empties2
import Derived.Ground.SlbCloneProg
import Derived.Shelf.Bytes.SlClone
import Derived.Ground.SlbNamesProg
import Derived.Shelf.Bytes.SlJoin
import Derived.Ground.SlgnProg
import Derived.Shelf.SlicesE.Reverse
import Derived.Shelf.SlicesE.Clone
set_option linter.unusedVariables false
set_option linter.unusedSimpArgs false
namespace Go.Proofs.YtloeaiafphkjnaaGreatDoor.Sx
open Go
theorem fmc {α : Type _} {p : α → Prop} {a : α} {l : List α} (h : p a ∧ ∀ x ∈ l, p x) : ∀ x ∈ a :: l, p x := List.forall_mem_cons.2 h
section
variable {cx : Cx} {β : Va} {n : Nat} {env : Env} {H : List Bk} {F : List Fact} {a : Act} {w w' : World}
theorem Sat.get (h : Sat cx β n H F w) (j : Nat) {f : Fact} (hj : nth F j = some f) : f.p w := h.fact f (List.mem_of_getElem? (by rw [← nth_eq]; exact hj))
theorem Sat.getLt (h : Sat cx β n H F w) (j : Nat) {f : Fact} (hj : nth F j = some f) : ∀ k, f.D k → k < w.heap.size := h.flt f (List.mem_of_getElem? (by rw [← nth_eq]; exact hj))
theorem Sat.getNew (h : Sat cx β n H F w) (j : Nat) {f : Fact} (hj : nth F j = some f) (ho : f.own = true) : ∀ k, f.D k → cx.S k ∨ cx.W0.heap.size ≤ k := h.fown f (List.mem_of_getElem? (by rw [← nth_eq]; exact hj)) ho
theorem Sat.startB (hw : cx.W0 = w) (hn : cx.bs.length ≤ n) (hb : ∀ i, i < cx.bs.length → β i = cx.bs.getD i 0) (hp : β.pins = [] := by rfl) (hm : β.marks = [] := by rfl) (hr : cx.rnd = none := by rfl) (hpn : cx.pn = [] := by rfl) : Sat cx β n [] [] w := by
  subst hw
  refine ⟨Chg.refl _ _, ⟨hn, hb⟩, ?_, ?_, List.Pairwise.nil, ?_, ?_, ?_, ?_, ?_, List.Pairwise.nil, ?_, ⟨by rw [hm]; exact List.nodup_nil, ?_⟩, ⟨?_, ?_⟩⟩
  · intro x hx; cases hx
  · intro x hx; cases hx
  · intro x hx; cases hx
  · intro x hx; cases hx
  · intro x hx; cases hx
  · intro x hx; cases hx
  · intro x hx; cases hx
  · intro x hx; rw [hp] at hx; cases hx
  · intro x hx; rw [hm] at hx; cases hx
  · intro x hx; rw [hpn] at hx; cases hx
  · intro l hl; rw [hr] at hl; cases hl
theorem Sat.start (hw : cx.W0 = w) (hbs : cx.bs = [] := by rfl) (hp : β.pins = [] := by rfl) (hm : β.marks = [] := by rfl) (hr : cx.rnd = none := by rfl) (hpn : cx.pn = [] := by rfl) : Sat cx β n [] [] w :=
  Sat.startB hw (by rw [hbs]; exact Nat.zero_le _) (fun i hi => by rw [hbs] at hi; cases hi) hp hm hr hpn
theorem Sat.old (h : Sat cx β n H F w) (f : Fact) (hp : f.p w) (hD : ∀ k, f.D k → k < w.heap.size) (hb : ∀ b ∈ H, ¬ f.D (β b.id)) (ho : f.own = true → ∀ k, f.D k → cx.S k ∨ cx.W0.heap.size ≤ k)
    (hs : ∀ g ∈ F, f.own = true ∨ g.own = true → ∀ k, f.D k → ¬ g.D k) (hpp : ∀ p ∈ β.pins, ¬ f.D p.1 := by (intro p hp; exact absurd hp List.not_mem_nil)) : Sat cx β n H (f :: F) w := by
  refine ⟨h.chg, h.fix, h.blk, h.mine, h.inj, h.ltb, ?_, ?_, ?_, ?_, List.pairwise_cons.2 ⟨hs, h.sepf⟩, fun p hp' => ⟨(h.pin p hp').1, (h.pin p hp').2.1, ?_⟩, h.mrk, h.rnd⟩ <;> intro g hg <;> rcases List.mem_cons.1 hg with rfl | hg
  · assumption
  · exact h.fact g hg
  · exact hD
  · exact h.flt g hg
  · exact hb
  · exact h.sepb g hg
  · exact ho
  · exact h.fown g hg
  · exact hpp p hp'
  · exact (h.pin p hp').2.2 g hg
theorem Sat.sub (h : Sat cx β n H F w) (j : Nat) {f : Fact} (hj : nth F j = some f) (hfo : f.own = false) (g : Fact) (hgo : g.own = false) (hp : g.p w) (hD : ∀ k, g.D k → f.D k) : Sat cx β n H (g :: F) w := by
  have hm : f ∈ F := List.mem_of_getElem? (by rw [← nth_eq]; exact hj)
  refine h.old g hp (fun k hk => h.flt f hm k (hD k hk)) (fun b hb q => h.sepb f hm b hb (hD _ q)) (fun q => by rw [hgo] at q; cases q) (fun g' hg' ho k hk hk' => ?_) (fun p hpp q => (h.pin p hpp).2.2 f hm (hD _ q))
  have ho' : g'.own = true := ho.resolve_left (by rw [hgo]; decide)
  rw [nth_eq] at hj
  obtain ⟨i, hi⟩ := List.getElem?_of_mem hg'
  have hne : i ≠ j := fun q => by subst q; rw [hi] at hj; obtain rfl := Option.some.inj hj; rw [hfo] at ho'; cases ho'
  exact h.apart hi hj hne (.inl ho') k hk' (hD k hk)
theorem rd_lt {size : Nat} {A : Option Addr} {k : Nat} {xs : List Value} (h : Rd size A k xs w) : ∀ g, (rdF size A k xs).D g → g < w.heap.size := by
  rintro g ⟨hk, ad, rfl, rfl⟩
  obtain ⟨ad', q, hc⟩ := h.2 (Nat.pos_of_mul_pos_right hk)
  obtain rfl := Option.some.inj q
  have hl : 0 < xs.length := by rw [h.1]; exact hk
  have h0 := hc 0 _ (List.getElem?_eq_getElem hl)
  simp only [Addr.add, if_true] at h0
  rcases Nat.lt_or_ge ad.block w.heap.size with hlt | hge
  · exact hlt
  · simp [World.cell?, Array.getElem?_eq_none hge] at h0
theorem Sat.rd (h : Sat cx β n [] F w) (hF : ∀ g ∈ F, g.own = false) {size : Nat} {A : Option Addr} {k : Nat} {xs : List Value} (hr : Rd size A k xs w) (hpp : ∀ p ∈ β.pins, ¬ (rdF size A k xs).D p.1 := by (intro p hp; exact absurd hp List.not_mem_nil)) : Sat cx β n [] (rdF size A k xs :: F) w :=
  h.old _ hr (rd_lt hr) (fun _ hb => by cases hb) (fun q => by cases q) (fun g hg ho => by
    rcases ho with q | q
    · cases q
    · rw [hF g hg] at q; cases q) hpp
end
def EntE (env : Env) : Env → Prop
  | [] => True
  | (t, s) :: r => get env t = some s ∧ EntE env r
theorem EntE.get {env : Env} : ∀ {env' : Env}, EntE env env' → ∀ t s, get env' t = some s → get env t = some s
  | [], _, t, s, h => by cases h
  | (u, s') :: r, hE, t, s, h => by
    by_cases hut : u = t
    · subst hut
      rw [get_same] at h
      obtain rfl := Option.some.inj h
      exact hE.1
    · rw [get_other _ _ hut] at h
      exact EntE.get hE.2 t s h
def envLt (n : Nat) : Env → Bool
  | [] => true
  | (_, s) :: r => match s.ltB n with | true => envLt n r | false => false
theorem envLt_get {n : Nat} : ∀ {env : Env}, envLt n env = true → ∀ t s, get env t = some s → s.lt n
  | [], _, t, s, h => by cases h
  | (u, s') :: r, hE, t, s, h => by
    simp only [envLt] at hE
    cases hl : s'.ltB n with
    | false => rw [hl] at hE; cases hE
    | true =>
      rw [hl] at hE
      by_cases hut : u = t
      · subst hut
        rw [get_same] at h
        obtain rfl := Option.some.inj h
        exact SV.ltB_lt hl
      · rw [get_other _ _ hut] at h
        exact envLt_get hE t s h
theorem Ent.mk' {cx : Cx} {n n' : Nat} {env env' : Env} {H H' : List Bk} {F F' : List Fact} (hE : EntE env env') (hl : envLt n' env' = true) (hs : ∀ β w, Sat cx β n H F w → Sat cx β n' H' F' w) : Ent cx n env H F n' env' H' F' :=
  ⟨fun β a w h => ⟨β, rfl, rfl, fun t s ht => h.ag t s (hE.get t s ht), h.size, h.df, envLt_get hl, hs β w h.sat⟩⟩
theorem Ent.same {cx : Cx} {n : Nat} {env env' : Env} {H : List Bk} {F : List Fact} (hE : EntE env env') (hl : envLt n env' = true) : Ent cx n env H F n env' H F := Ent.mk' hE hl fun _ _ h => h
theorem Sat.rowSet {cx : Cx} {β : Va} {n : Nat} {H : List Bk} {F : List Fact} {w : World} (h : Sat cx β n H F w) {j : Nat} {b k c e size : Nat} {xs us : List Value} {o : Nat}
    (hj : nth F j = some (rowF e size (.slice (some ⟨b, 0, none⟩) k c) k xs)) (hlt : o + us.length ≤ k * size) (h1 : ∀ u ∈ us, u.oneCell' = true) :
    ∃ w', (storeCells ((⟨b, 0, none⟩ : Addr).add o) us 0).run cx.P w = .ok () w' ∧ Sat cx β n H (putAt F j (rowF e size (.slice (some ⟨b, 0, none⟩) k c) k (putAll xs o us))) w' := by
  have hp : w.ownsRow 0 e size (.slice (some ⟨b, 0, none⟩) k c) k xs := h.get j hj
  rcases hp.2 with ⟨q, _⟩ | ⟨g, cap, cur, hv, _, hg, hnc, hcm, hcs, htake⟩
  · cases q
  · have hbg : b = g := by injection hv with h1 h2 h3; injection h1 with h1; injection h1
    have hcc : c = cap := by injection hv
    subst hbg hcc
    have hks : k * size ≤ c * size := Nat.mul_le_mul_right _ hnc
    have hcl : cur.toList.length = c * size := by simpa using hcs
    obtain ⟨w', e1, e2, e3, e4⟩ := run_storeCells (P := cx.P) b e us o 0 w cur.toList (by simpa using hg) h1 (by rw [hcl]; omega)
    rw [add_none, Nat.zero_add]
    refine ⟨w', e1, h.upd hj rfl (Chg.mono e3 (fun i _ q => by subst q; rfl)) ?_ (fun q hq => .inl hq)⟩
    refine ⟨by rw [length_putAll]; exact hp.1, .inr ⟨b, c, _, rfl, Nat.zero_le _, e2, hnc, hcm, by simp [length_putAll, hcs], ?_⟩⟩
    rw [Nat.add_zero, ← htake]
    have key : ∀ (us l : List Value) (o m : Nat), o + us.length ≤ m → (putAll l o us).take m = putAll (l.take m) o us := by
      intro us
      induction us with
      | nil => intro l o m _; rfl
      | cons u us ih =>
        intro l o m hm
        simp only [List.length_cons] at hm
        rw [putAll, putAll, putAt_eq, putAt_eq, ih _ _ _ (by omega), List.take_set]
    simpa using key us cur.toList o (k * size) hlt
abbrev Bs (w : World) (A : Option Addr) (l : List UInt8) : Prop := Rd 1 A l.length (l.map byte) w
abbrev bsF (A : Option Addr) (l : List UInt8) : Fact := rdF 1 A l.length (l.map byte)
def lim : Nat := 70368744177664
theorem lim_eq : lim = 70368744177664 := rfl
theorem bytes_one (l : List UInt8) : ∀ u ∈ l.map byte, u.oneCell' = true := by
  intro u hu
  obtain ⟨x, _, rfl⟩ := List.mem_map.1 hu
  rfl
theorem Bs.cell {w : World} {A : Option Addr} {l : List UInt8} (h : Bs w A l) {ad : Addr} (hA : A = some ad) {j : Nat} (hj : j < l.length) : w.cell? (ad.add (j * 1)) = some (byte l[j]) := by
  obtain ⟨ad', q, hc⟩ := h.2 (by omega)
  rw [hA] at q
  obtain rfl := Option.some.inj q
  rw [Nat.mul_one]
  exact hc j _ (by simp [List.getElem?_eq_getElem hj])
theorem Bs.addr {w : World} {A : Option Addr} {l : List UInt8} (h : Bs w A l) (hl : 0 < l.length) : ∃ ad, A = some ad := by
  obtain ⟨ad', q, _⟩ := h.2 hl
  exact ⟨ad', q⟩
theorem Bs.same {w w' : World} {A : Option Addr} {l : List UInt8} (h : Bs w A l) {S : Nat → Prop} (hc : Chg S w w') (hd : ∀ k, (bsF A l).D k → ¬ S k) : Bs w' A l :=
  (bsF A l).st w w' (fun k hk => hc.same k (rd_lt h k hk) (hd k hk)) h
theorem Bs.chg {w w' : World} {A : Option Addr} {l : List UInt8} (h : Bs w A l) (hc : Chg None_ w w') : Bs w' A l := h.same hc (fun _ _ q => q)
theorem Bs.nil (w : World) (A : Option Addr) : Bs w A [] := ⟨rfl, fun h => by simp at h⟩
theorem Bs.cut {w : World} {A : Option Addr} {l : List UInt8} (h : Bs w A l) {c m i j : Nat} (hl : l.length ≤ c) (hm : m = c ∨ j ≤ m) (hij : i ≤ j) (hj : j ≤ l.length) (hmc : m ≤ c) : Rd 1 (cutA A m i 1) (j - i) (((l.drop i).take (j - i)).map byte) w := by
  refine ⟨by simp; omega, fun hp => ?_⟩
  obtain ⟨ad, rfl, hc⟩ := h.2 (by omega)
  have hne : ¬ m = i := by rcases hm with rfl | hm <;> omega
  refine ⟨ad.add (i * 1), by simp [cutA, hne], fun k u hk => ?_⟩
  rw [add_add', Nat.mul_one]
  refine hc (i + k) u ?_
  rw [← hk]
  simp only [List.getElem?_map, List.getElem?_take, List.getElem?_drop]
  have hkl : k < j - i := by
    have := (List.getElem?_eq_some_iff.1 hk).1
    simp at this; omega
  simp [hkl]
theorem Bs.cutB {w : World} {A : Option Addr} {l m : List UInt8} (h : Bs w A l) {c i j : Nat} (hl : l.length ≤ c) (hij : i ≤ j) (hj : j ≤ l.length) (hm : (l.drop i).take (j - i) = m) : Bs w (cutA A c i 1) m := by
  have h1 := h.cut (c := c) (m := c) hl (.inl rfl) hij hj (Nat.le_refl _)
  have h2 : m.length = j - i := by rw [← hm]; simp; omega
  show Rd 1 _ m.length _ w
  rw [h2, ← hm]
  exact h1
def NewRow (w w' : World) (A : Option Addr) (l : List UInt8) (c e : Nat) : Prop :=
  l.length ≤ c ∧ c ≤ maxLen ∧ w'.ownsRow 0 e 1 (.slice A l.length c) l.length (l.map byte) ∧ ∀ k, Value.ownBlock (.slice A l.length c) = some k → w.heap.size ≤ k
theorem NewRow.bs {w w' : World} {A : Option Addr} {l : List UInt8} {c e : Nat} (h : NewRow w w' A l c e) : Bs w' A l := row_rd h.2.2.1
abbrev browF (e : Nat) (A : Option Addr) (l : List UInt8) (c : Nat) : Fact := rowF e 1 (.slice A l.length c) l.length (l.map byte)
theorem NewRow.lt {w w' : World} {A : Option Addr} {l : List UInt8} {c e : Nat} (h : NewRow w w' A l c e) : ∀ k, (browF e A l c).D k → w.heap.size ≤ k ∧ k < w'.heap.size := fun k hk => ⟨h.2.2.2 k hk, (h.2.2.1.lt k hk).2⟩
section
variable {cx : Cx} {β : Va} {n : Nat} {env : Env} {H : List Bk} {F : List Fact} {a : Act} {w w' : World}
theorem Sat.newRow (h : Sat cx β n H F w) (hS : cx.S = None_) (j : Nat) {A : Option Addr} {l : List UInt8} {c e : Nat} (hj : nth F j = some (browF e A l c)) (h1 : l.length ≤ c) (h2 : c ≤ maxLen) : NewRow cx.W0 w A l c e := by
  refine ⟨h1, h2, h.get j hj, fun k hk => ?_⟩
  rcases h.getNew j hj rfl k hk with q | q
  · rw [hS] at q; exact q.elim
  · exact q
end
theorem mx (a b : Nat) : max (a : Int) b = ((max a b : Nat) : Int) := by omega
theorem wrap_i64 {x : Int} (h1 : -9223372036854775808 ≤ x) (h2 : x < 9223372036854775808) : IntKind.i64.wrap x = x := by rw [IntKind.wrap_i64]; omega
end Go.Proofs.YtloeaiafphkjnaaGreatDoor.Sx

namespace Go.Proofs.YtloeaiafphkjnaaGreatDoor.Sx
open Go
def Un (Gs : List Fact) : Nat → Prop := fun k => ∃ g ∈ Gs, g.D k
structure Mem (w : World) (F : List Fact) : Prop where
  fact : ∀ f ∈ F, f.p w
  flt : ∀ f ∈ F, ∀ k, f.D k → k < w.heap.size
  sepf : F.Pairwise (fun f g => f.own = true ∨ g.own = true → ∀ k, f.D k → ¬ g.D k)
def Owns : List Fact → Prop
  | [] => True
  | f :: r => f.own = true ∧ Owns r
theorem Owns.mem : ∀ {l : List Fact}, Owns l → ∀ f ∈ l, f.own = true
  | _ :: _, h, g, hg => by
    rcases List.mem_cons.1 hg with rfl | hg
    · exact h.1
    · exact Owns.mem h.2 g hg
def takeIx (F : List Fact) : List Nat → List Fact
  | [] => []
  | j :: r => match nth F j with | some f => f :: takeIx F r | none => []
def dropIx (js : List Nat) : Nat → List Fact → List Fact
  | _, [] => []
  | i, f :: r => match memb js i with | true => dropIx js (i + 1) r | false => f :: dropIx js (i + 1) r
def nodupB : List Nat → Bool
  | [] => true
  | j :: r => match memb r j with | true => false | false => nodupB r
theorem memb_not {l : List Nat} {y : Nat} (h : memb l y = false) : y ∉ l := by
  induction l with
  | nil => exact List.not_mem_nil
  | cons x r ih =>
    simp only [memb] at h
    cases hb : Nat.beq x y with
    | true => rw [hb] at h; cases h
    | false =>
      rw [hb] at h
      intro q
      rcases List.mem_cons.1 q with rfl | q
      · rw [Nat.beq_refl] at hb; cases hb
      · exact ih h q
theorem takeIx_mem {F : List Fact} : ∀ {js : List Nat} {g : Fact}, g ∈ takeIx F js → ∃ j ∈ js, F[j]? = some g
  | j :: r, g, h => by
    simp only [takeIx] at h
    split at h
    · rename_i f hf
      rw [nth_eq] at hf
      rcases List.mem_cons.1 h with rfl | h
      · exact ⟨j, List.mem_cons_self, hf⟩
      · obtain ⟨i, hi, q⟩ := takeIx_mem h
        exact ⟨i, List.mem_cons_of_mem _ hi, q⟩
    · cases h
theorem dropIx_mem {js : List Nat} : ∀ {F : List Fact} {i : Nat} {g : Fact}, g ∈ dropIx js i F → ∃ k, F[k]? = some g ∧ (i + k) ∉ js
  | f :: r, i, g, h => by
    simp only [dropIx] at h
    cases hb : memb js i with
    | true =>
      rw [hb] at h
      obtain ⟨k, h1, h2⟩ := dropIx_mem h
      exact ⟨k + 1, by simpa using h1, by rw [Nat.add_comm k 1, ← Nat.add_assoc]; exact h2⟩
    | false =>
      rw [hb] at h
      rcases List.mem_cons.1 h with rfl | h
      · exact ⟨0, rfl, memb_not hb⟩
      · obtain ⟨k, h1, h2⟩ := dropIx_mem h
        exact ⟨k + 1, by simpa using h1, by rw [Nat.add_comm k 1, ← Nat.add_assoc]; exact h2⟩
theorem dropIx_sub (js : List Nat) : ∀ (F : List Fact) (i : Nat), List.Sublist (dropIx js i F) F
  | [], _ => List.Sublist.slnil
  | f :: r, i => by
    simp only [dropIx]
    cases memb js i with
    | true => exact (dropIx_sub js r (i + 1)).cons _
    | false => exact (dropIx_sub js r (i + 1)).cons_cons _
section
variable {cx : Cx} {β : Va} {n : Nat} {env : Env} {H : List Bk} {F : List Fact} {a : Act} {w w' : World}
theorem Sat.mem (h : Sat cx β n H F w) : Mem w F := ⟨h.fact, h.flt, h.sepf⟩
theorem Mem.take (h : Mem w F) : ∀ {js : List Nat}, nodupB js = true → Mem w (takeIx F js)
  | [], _ => ⟨fun _ q => (by cases q), fun _ q => (by cases q), List.Pairwise.nil⟩
  | j :: r, hn => by
    simp only [nodupB] at hn
    cases hb : memb r j with
    | true => rw [hb] at hn; cases hn
    | false =>
      rw [hb] at hn
      have ih := Mem.take h hn
      simp only [takeIx]
      split
      · rename_i f hf
        rw [nth_eq] at hf
        have hfm := List.mem_of_getElem? hf
        refine ⟨fun g hg => ?_, fun g hg => ?_, List.pairwise_cons.2 ⟨fun g hg ho k hk hk' => ?_, ih.sepf⟩⟩
        · rcases List.mem_cons.1 hg with rfl | hg
          · exact h.fact _ hfm
          · exact ih.fact g hg
        · rcases List.mem_cons.1 hg with rfl | hg
          · exact h.flt _ hfm
          · exact ih.flt g hg
        · obtain ⟨i, hi, hgi⟩ := takeIx_mem hg
          have hne : j ≠ i := fun q => by subst q; exact memb_not hb hi
          obtain ⟨hjl, rfl⟩ := List.getElem?_eq_some_iff.1 hf
          obtain ⟨hil, rfl⟩ := List.getElem?_eq_some_iff.1 hgi
          have hp := List.pairwise_iff_getElem.1 h.sepf
          rcases Nat.lt_or_gt_of_ne hne with hlt | hgt
          · exact hp j i hjl hil hlt ho k hk hk'
          · exact hp i j hil hjl hgt ho.symm k hk' hk
      · exact ⟨fun _ q => (by cases q), fun _ q => (by cases q), List.Pairwise.nil⟩
theorem Sat.swap (h : Sat cx β n H F w) (js : List Nat) (hown : Owns (takeIx F js)) {Fs : List Fact} (hc : Chg (Un (takeIx F js)) w w') (hm : Mem w' Fs)
    (hD : ∀ f ∈ Fs, ∀ k, f.D k → Un (takeIx F js) k ∨ w.heap.size ≤ k) : Sat cx β n H (Fs ++ dropIx js 0 F) w' := by
  have hfm : ∀ g ∈ takeIx F js, g ∈ F := fun g hg => by obtain ⟨j, _, q⟩ := takeIx_mem hg; exact List.mem_of_getElem? q
  have hdm : ∀ g ∈ dropIx js 0 F, g ∈ F := fun g hg => (dropIx_sub js F 0).subset hg
  have hap : ∀ g ∈ takeIx F js, ∀ d ∈ dropIx js 0 F, ∀ k, g.D k → ¬ d.D k := by
    intro g hg d hd
    obtain ⟨j, hj, hgj⟩ := takeIx_mem hg
    obtain ⟨i, hi, hni⟩ := dropIx_mem hd
    exact h.apart hgj hi (fun q => by subst q; rw [Nat.zero_add] at hni; exact hni hj) (.inl (hown.mem g hg))
  have hS : ∀ k, Un (takeIx F js) k → cx.S k ∨ cx.W0.heap.size ≤ k := fun k ⟨g, hg, hk⟩ => h.fown g (hfm g hg) (hown.mem g hg) k hk
  refine ⟨?_, h.fix, fun b hb => ?_, h.mine, h.inj, h.ltb, fun f hf => ?_, fun f hf k hk => ?_, fun f hf b hb => ?_, fun f hf ho k hk => ?_, List.pairwise_append.2 ⟨hm.sepf, h.sepf.sublist (dropIx_sub js F 0), fun f hf d hd _ k hk hk' => ?_⟩, fun p hp => ⟨?_, (h.pin p hp).2.1, fun f hf => ?_⟩, h.mrk, h.rnd⟩
  · refine ⟨hc.os.trans h.chg.os, hc.tape.trans h.chg.tape, hc.output.trans h.chg.output, Nat.le_trans h.chg.size hc.size, fun k hk hn => ?_⟩
    rw [hc.same k (Nat.lt_of_lt_of_le hk h.chg.size) (fun q => ?_)]
    · exact h.chg.same k hk hn
    · rcases hS k q with q | q
      · exact hn q
      · omega
  · rw [hc.same _ (h.lt hb) (fun ⟨g, hg, hk⟩ => h.sepb g (hfm g hg) b hb hk)]; exact h.blk b hb
  · rcases List.mem_append.1 hf with hf | hf
    · exact hm.fact f hf
    · exact f.st _ _ (fun k hk => hc.same k (h.flt f (hdm f hf) k hk) (fun ⟨g, hg, hk'⟩ => hap g hg f hf k hk' hk)) (h.fact f (hdm f hf))
  · rcases List.mem_append.1 hf with hf | hf
    · exact hm.flt f hf k hk
    · exact Nat.lt_of_lt_of_le (h.flt f (hdm f hf) k hk) hc.size
  · rcases List.mem_append.1 hf with hf | hf
    · intro q
      rcases hD f hf _ q with ⟨g, hg, hk⟩ | q
      · exact h.sepb g (hfm g hg) b hb hk
      · have := h.lt hb; omega
    · exact h.sepb f (hdm f hf) b hb
  · rcases List.mem_append.1 hf with hf | hf
    · rcases hD f hf k hk with q | q
      · exact hS k q
      · exact .inr (Nat.le_trans h.chg.size q)
    · exact h.fown f (hdm f hf) ho k hk
  · rcases hD f hf k hk with ⟨g, hg, q⟩ | q
    · exact hap g hg d hd k q hk'
    · have := h.flt d (hdm d hd) k hk'; omega
  · rw [hc.same _ (h.pinLt hp) (fun ⟨g, hg, hk⟩ => (h.pin p hp).2.2 g (hfm g hg) hk)]; exact (h.pin p hp).1
  · rcases List.mem_append.1 hf with hf | hf
    · intro q
      rcases hD f hf _ q with ⟨g, hg, hk⟩ | q
      · exact (h.pin p hp).2.2 g (hfm g hg) hk
      · have := h.pinLt hp; omega
    · exact (h.pin p hp).2.2 f (hdm f hf)
end
theorem Sat.perm {cx : Cx} {β : Va} {n : Nat} {H : List Bk} {F : List Fact} {w : World} (h : Sat cx β n H F w) (js : List Nat) (hn : nodupB js = true := by rfl) : Sat cx β n H (takeIx F js) w := by
  have hm := h.mem.take hn
  have hfm : ∀ f ∈ takeIx F js, f ∈ F := fun f hf => by obtain ⟨j, _, q⟩ := takeIx_mem hf; exact List.mem_of_getElem? q
  exact ⟨h.chg, h.fix, h.blk, h.mine, h.inj, h.ltb, hm.fact, hm.flt, fun f hf => h.sepb f (hfm f hf), fun f hf => h.fown f (hfm f hf), hm.sepf, fun p hp => ⟨(h.pin p hp).1, (h.pin p hp).2.1, fun f hf => (h.pin p hp).2.2 f (hfm f hf)⟩, h.mrk, h.rnd⟩
def bksLt (n : Nat) : List Bk → Bool
  | [] => true
  | b :: r => match Nat.blt b.id n, allLtL n b.cells with | true, true => bksLt n r | _, _ => false
theorem bksLt_mem {n : Nat} : ∀ {H : List Bk}, bksLt n H = true → ∀ b ∈ H, b.id < n ∧ ∀ x ∈ b.cells, x.lt n
  | b :: r, h, c, hc => by
    simp only [bksLt] at h
    split at h
    · rename_i h1 h2
      rcases List.mem_cons.1 hc with rfl | hc
      · exact ⟨by simpa [Nat.blt_eq] using h1, allLtL_mem h2⟩
      · exact bksLt_mem h c hc
    · cases h
theorem Sat.lower {cx : Cx} {β : Va} {n n' : Nat} {H : List Bk} {F : List Fact} {w : World} (h : Sat cx β n H F w) (hH : bksLt n' H = true := by rfl) (hb : cx.bs.length ≤ n' := by first | exact Nat.zero_le _ | exact Nat.le_refl _ | assumption | exact Nat.le_of_ble_eq_true rfl) : Sat cx β n' H F w :=
  h.recast (Agr.refl _ _) hb (bksLt_mem hH)
theorem Sat.keepB {cx : Cx} {β : Va} {n : Nat} {H : List Bk} {F : List Fact} {w : World} (h : Sat cx β n H F w) {H' : List Bk} (hs : List.Sublist H' H) : Sat cx β n H' F w := h.weaken hs (List.Sublist.refl _)
theorem Ent.sub {cx : Cx} {n n' : Nat} {env env0 env' : Env} {H H' : List Bk} {F F' : List Fact} (h : Ent cx n env0 H F n' env' H' F') (hE : EntE env env0) (hl : envLt n env0 = true := by rfl) : Ent cx n env H F n' env' H' F' :=
  ⟨fun β a w hi => h.run β a w ⟨fun t s ht => hi.ag t s (hE.get t s ht), hi.size, hi.df, envLt_get hl, hi.sat⟩⟩
def Fin (w : World) (Gs : List Fact) (R : Value → List Fact → Prop) (v : Value) (w' : World) : Prop :=
  ∃ Fs, R v Fs ∧ Chg (Un Gs) w w' ∧ Mem w' Fs ∧ Owns Fs ∧ ∀ f ∈ Fs, ∀ k, f.D k → Un Gs k ∨ w.heap.size ≤ k
def Con (P : Program) (f : FuncId) (args : Array Value) (w : World) (Gs : List Fact) (R : Value → List Fact → Prop) : Prop :=
  Calls P f args w fun e w' => ∃ v, e = .returned v ∧ Fin w Gs R v w'
def Pu (P : Program) (f : FuncId) (args : Array Value) (w : World) (v : Value) : Prop := Con P f args w [] fun u Fs => u = v ∧ Fs = []
section
variable {cx : Cx} {β : Va} {n : Nat} {env : Env} {H : List Bk} {F : List Fact} {a : Act} {w w' : World} {dst : Option Tmp} {K : KT} {k : FuncId}
theorem Un.nil : Un [] = None_ := by
  funext k
  simp [Un, None_]
theorem Fin.mono {Gs : List Fact} {R R' : Value → List Fact → Prop} {v : Value} (h : Fin w Gs R v w') (hr : ∀ Fs, R v Fs → R' v Fs) : Fin w Gs R' v w' :=
  let ⟨Fs, h1, h2⟩ := h; ⟨Fs, hr _ h1, h2⟩
theorem Con.mono {P : Program} {args : Array Value} {Gs : List Fact} {R R' : Value → List Fact → Prop} (h : Con P k args w Gs R) (hr : ∀ v Fs, R v Fs → R' v Fs) : Con P k args w Gs R' :=
  Calls.mono h fun _ _ ⟨v, he, hf⟩ => ⟨v, he, hf.mono (hr v)⟩
theorem call_con (js : List Nat) {A : Va → Array Value} {R : Value → List Fact → Prop} (hc : ∀ β w, Sat cx β n H F w → Con cx.P k (A β) w (takeIx F js) R)
    (hk : ∀ v Fs, R v Fs → put cx.N n env H (Fs ++ dropIx js 0 F) dst (ofValue v) K) (hown : Owns (takeIx F js) := by first | exact trivial | exact ⟨rfl, trivial⟩ | exact ⟨rfl, rfl, trivial⟩ | exact ⟨by assumption, trivial⟩) :
    ∀ β w, Sat cx β n H F w → Calls cx.P k (A β) w fun e w' => ∃ v, e = .returned v ∧ Ret cx β n env dst K v w' := fun β w hs =>
  Calls.mono (hc β w hs) fun _ _ ⟨v, he, Fs, hR, hch, hm, _, hD⟩ => ⟨v, he, Ret.mk _ _ (hs.swap js hown hch hm hD) (hk v Fs hR)⟩
theorem call_pu {A : Va → Array Value} {v : Value} (hc : ∀ β w, Sat cx β n H F w → Pu cx.P k (A β) w v) (hk : put cx.N n env H F dst (ofValue v) K) :
    ∀ β w, Sat cx β n H F w → Calls cx.P k (A β) w fun e w' => ∃ v, e = .returned v ∧ Ret cx β n env dst K v w' := fun β w hs =>
  Calls.mono (hc β w hs) fun _ _ ⟨v, he, Fs, ⟨h1, h2⟩, hch, hm, _, hD⟩ => ⟨v, he, by
    subst h1 h2
    exact Ret.mk _ _ (hs.same (by rw [← Un.nil]; exact hch)) hk⟩
theorem con_of_sx {f : FuncId} {fn : Func} {c : Code} {Gs : List Fact} {R : Value → List Fact → Prop} (g : Good cx) (hf : cx.P.funcs[f]? = some fn) (hb : fn.body = some c) (hN : fn.ntmps = cx.N)
    {β : Va} (svs : List SV) (n : Nat) (H : List Bk) (F : List Fact) (hlen : Nat.ble svs.length cx.N = true) (hltB : allLt n svs = true) (hs : Sat cx β n H F w)
    (hw : cwp cx c (fnPost cx fn.results.toList (Fin w Gs R)) n (pairs 0 svs) H F) (hr : cx.rnd = none := by rfl) (hm : β.marks = [] := by rfl) (hp0 : cx.pn = [] := by rfl) :
    Con cx.P f (svs.map (SV.val β)).toArray w Gs R := calls_of_sx g hf hb hN svs n H F hlen hltB hs hw hr hm hp0
theorem Sat.fin {Gs : List Fact} {R : Value → List Fact → Prop} {v : Value} (h : Sat cx β n H F w') (js : List Nat) (hR : R v (takeIx F js)) (hW : cx.W0 = w := by rfl) (hS : cx.S = Un Gs := by rfl)
    (hn : nodupB js = true := by rfl) (hown : Owns (takeIx F js) := by first | exact trivial | exact ⟨rfl, trivial⟩ | exact ⟨rfl, rfl, trivial⟩ | exact ⟨by assumption, trivial⟩) : Fin w Gs R v w' := by
  refine ⟨_, hR, by rw [← hW, ← hS]; exact h.chg, h.mem.take hn, hown, fun f hf k hk => ?_⟩
  obtain ⟨j, _, hj⟩ := takeIx_mem hf
  rw [← hS, ← hW]
  exact h.fown f (List.mem_of_getElem? hj) (hown.mem f hf) k hk
theorem Mem.sat (h : Mem w F) (hW : cx.W0 = w := by rfl) (hS : ∀ f ∈ F, f.own = true → ∀ k, f.D k → cx.S k) (hfix : cx.bs.length ≤ n ∧ ∀ i, i < cx.bs.length → β i = cx.bs.getD i 0)
    (hp : β.pins = [] := by rfl) (hm : β.marks = [] := by rfl) (hr : cx.rnd = none := by rfl) (hpn : cx.pn = [] := by rfl) : Sat cx β n [] F w := by
  have h0 : Sat cx β n [] [] w := Sat.startB hW hfix.1 hfix.2 hp hm hr hpn
  refine ⟨h0.chg, h0.fix, h0.blk, h0.mine, h0.inj, h0.ltb, h.fact, h.flt, fun _ _ b hb => (by cases hb), fun f hf ho k hk => .inl (hS f hf ho k hk), h.sepf, fun p hq => ?_, h0.mrk, h0.rnd⟩
  rw [hp] at hq; cases hq
def sepF (Fs : List Fact) : Fact where
  own := true
  D := Un Fs
  p := fun w => (∀ f ∈ Fs, f.p w) ∧ Fs.Pairwise (fun f g : Fact => ∀ k : Nat, f.D k → ¬ g.D k)
  st := fun w w' hs h => ⟨fun f hf => f.st w w' (fun k hk => hs k ⟨f, hf, hk⟩) (h.1 f hf), h.2⟩
theorem Sat.unsep (h : Sat cx β n H F w) (j : Nat) {Fs : List Fact} (hj : nth F j = some (sepF Fs)) : Sat cx β n H (Fs ++ dropIx [j] 0 F) w := by
  have hj' : F[j]? = some (sepF Fs) := by rw [← nth_eq]; exact hj
  have hm : sepF Fs ∈ F := List.mem_of_getElem? hj'
  have hp := h.fact _ hm
  have hdm : ∀ g ∈ dropIx [j] 0 F, g ∈ F := fun g hg => (dropIx_sub [j] F 0).subset hg
  have hap : ∀ f ∈ Fs, ∀ d ∈ dropIx [j] 0 F, ∀ k, f.D k → ¬ d.D k := by
    intro f hf d hd k hk
    obtain ⟨i, hi, hni⟩ := dropIx_mem hd
    exact h.apart hj' hi (fun q => by subst q; simp at hni) (.inl rfl) k ⟨f, hf, hk⟩
  refine ⟨h.chg, h.fix, h.blk, h.mine, h.inj, h.ltb, fun f hf => ?_, fun f hf k hk => ?_, fun f hf b hb q => ?_, fun f hf ho k hk => ?_, List.pairwise_append.2 ⟨(by refine hp.2.imp ?_; intro f g q _; exact q), h.sepf.sublist (dropIx_sub [j] F 0), fun f hf d hd _ => hap f hf d hd⟩, fun p hpp => ⟨(h.pin p hpp).1, (h.pin p hpp).2.1, fun f hf q => ?_⟩, h.mrk, h.rnd⟩
  all_goals rcases List.mem_append.1 hf with hf | hf
  · exact hp.1 f hf
  · exact h.fact f (hdm f hf)
  · exact h.flt _ hm k ⟨f, hf, hk⟩
  · exact h.flt f (hdm f hf) k hk
  · exact h.sepb _ hm b hb ⟨f, hf, q⟩
  · exact h.sepb f (hdm f hf) b hb q
  · exact h.fown _ hm rfl k ⟨f, hf, hk⟩
  · exact h.fown f (hdm f hf) ho k hk
  · exact (h.pin p hpp).2.2 _ hm ⟨f, hf, q⟩
  · exact (h.pin p hpp).2.2 f (hdm f hf) q
theorem Sat.sep (h : Sat cx β n H F w) (js : List Nat) (hn : nodupB js = true := by rfl) (hown : Owns (takeIx F js) := by first | exact trivial | exact ⟨rfl, trivial⟩ | exact ⟨rfl, rfl, trivial⟩ | exact ⟨rfl, rfl, rfl, trivial⟩) : Sat cx β n H (sepF (takeIx F js) :: dropIx js 0 F) w := by
  have hm := h.mem.take hn
  refine h.swap js hown (Fs := [sepF (takeIx F js)]) (Chg.refl _ _) ⟨fun f hf => ?_, fun f hf k hk => ?_, List.pairwise_singleton _ _⟩ (fun f hf k hk => ?_)
  · obtain rfl := List.mem_singleton.1 hf
    refine ⟨hm.fact, List.Pairwise.imp_of_mem (fun {f g} hf _ q => q (.inl (hown.mem f hf))) hm.sepf⟩
  · obtain rfl := List.mem_singleton.1 hf
    obtain ⟨g, hg, q⟩ := hk
    exact hm.flt g hg k q
  · obtain rfl := List.mem_singleton.1 hf
    exact .inl hk
theorem Sat.noMem (h : Sat cx β n H F w) (g : Fact) (hp : g.p w) (hD : ∀ k, ¬ g.D k) : Sat cx β n H (g :: F) w := h.add (Chg.refl _ _) g hp (fun k hk => (hD k hk).elim)
theorem Sat.nilRow (h : Sat cx β n H F w) (e : TypeId) (size : Nat) : Sat cx β n H (rowF e size (.slice none 0 0) 0 [] :: F) w :=
  h.noMem _ ⟨by simp, .inl ⟨rfl, rfl⟩⟩ (fun k hk => by cases hk)
theorem Sat.ofBk {id : Nat} {ty : TypeId} {cells : List SL} (h : Sat cx β n (⟨id, ty, cells⟩ :: H) F w) : Sat cx β n H (bkF (β id) ty (cells.map (SL.val β)) :: F) w := by
  have hb := h.blk _ List.mem_cons_self
  have h1 := h.weaken (List.sublist_cons_self _ H) (List.Sublist.refl F)
  refine h1.old (bkF (β id) ty (cells.map (SL.val β))) hb (fun k hk => ?_) (fun b hb' q => ?_) (fun _ k hk => ?_) (fun g hg _ k hk q => ?_) (fun p hp q => ?_)
  · obtain rfl : k = β id := hk; exact h.lt (b := ⟨id, ty, cells⟩) List.mem_cons_self
  · exact (List.pairwise_cons.1 h.inj).1 b hb' (Eq.symm q)
  · obtain rfl : k = β id := hk; exact h.mine _ List.mem_cons_self
  · obtain rfl : k = β id := hk; exact h.sepb g hg _ List.mem_cons_self q
  · exact h.pinBk hp List.mem_cons_self (Eq.symm q)
theorem Sat.toBk (h : Sat cx β n H F w) (j : Nat) {b : Nat} {ty : TypeId} {cs : List Value} (hj : nth F j = some (bkF b ty cs)) (id : Nat) (hid : id < n) (hb : β id = b) :
    Sat cx β n (⟨id, ty, cs.map SL.v⟩ :: H) (dropIx [j] 0 F) w := by
  subst hb
  have hj' : F[j]? = some (bkF (β id) ty cs) := by rw [← nth_eq]; exact hj
  have hm := List.mem_of_getElem? hj'
  have hp : w.heap[β id]? = some (.cells cs.toArray ty (0, 0)) := h.fact _ hm
  have h1 := h.weaken (List.Sublist.refl H) (dropIx_sub [j] F 0)
  refine ⟨h1.chg, h1.fix, fun b hb => ?_, fun b hb => ?_, List.pairwise_cons.2 ⟨fun b hb q => ?_, h1.inj⟩, fun b hb => ?_, h1.fact, h1.flt, fun f hf b hb => ?_, h1.fown, h1.sepf, h1.pin, h1.mrk, h1.rnd⟩
  · rcases List.mem_cons.1 hb with rfl | hb
    · rw [hp]; simp [Function.comp_def, SL.val]
    · exact h1.blk b hb
  · rcases List.mem_cons.1 hb with rfl | hb
    · exact h.fown _ hm rfl _ rfl
    · exact h1.mine b hb
  · exact h.sepb _ hm b hb q.symm
  · rcases List.mem_cons.1 hb with rfl | hb
    · refine ⟨hid, fun x hx => ?_⟩
      obtain ⟨y, _, rfl⟩ := List.mem_map.1 hx
      trivial
    · exact h1.ltb b hb
  · rcases List.mem_cons.1 hb with rfl | hb
    · obtain ⟨i, hi, hni⟩ := dropIx_mem hf
      intro q
      exact h.apart hj' hi (fun e => by subst e; simp at hni) (.inl rfl) (β id) rfl q
    · exact h1.sepb f hf b hb
end
#print axioms Sat.toBk
end Go.Proofs.YtloeaiafphkjnaaGreatDoor.Sx

namespace Go.Proofs.YtloeaiafphkjnaaGreatDoor.Sx
open Go
def Opens (P : Program) (w : World) : Nat → TypeId → List Value → Prop
  | 0, _, _ => False
  | fuel + 1, t, cs => match P.underlying t with
    | some .bool => ∃ b, cs = [.bool b]
    | some (.int k) => ∃ n, cs = [.int k n] ∧ (Lit.int k n).wf = true
    | some .string => ∃ s, cs = [.string s] ∧ s.size ≤ maxLen
    | some (.slice e) => ∃ (A : Option Addr) (n c : Nat) (xs : List (List Value)), cs = [.slice A n c] ∧ n ≤ c ∧ c ≤ maxLen ∧ xs.length = n ∧ (A = none → n = 0 ∧ c = 0) ∧ (∀ x ∈ xs, x.length = P.cellsOf e) ∧ Rd (P.cellsOf e) A n xs.flatten w ∧ ∀ x ∈ xs, Opens P w fuel e x
    | some (.struct fs) => cs.length = P.cellsOf t ∧ ∀ f ∈ fs.toList, Opens P w fuel f.type ((cs.drop f.offset).take (P.cellsOf f.type))
    | _ => True
theorem flatten_const {k : Nat} : ∀ {xs : List (List Value)} (_ : ∀ x ∈ xs, x.length = k), xs.flatten.length = xs.length * k ∧ ∀ i j x u, xs[i]? = some x → x[j]? = some u → xs.flatten[i * k + j]? = some u
  | [], _ => ⟨by simp, fun i j x u h => by simp at h⟩
  | y :: r, hx => by
    obtain ⟨h1, h2⟩ := flatten_const (xs := r) (fun x h => hx x (List.mem_cons_of_mem _ h))
    have hy := hx y List.mem_cons_self
    refine ⟨by simp [h1, hy, Nat.succ_mul]; omega, fun i j x u h hu => ?_⟩
    have hj : j < x.length := (List.getElem?_eq_some_iff.1 hu).1
    cases i with
    | zero =>
      obtain rfl : y = x := by simpa using h
      rw [List.flatten_cons, Nat.zero_mul, Nat.zero_add, List.getElem?_append_left hj]
      exact hu
    | succ i =>
      have h' : r[i]? = some x := by simpa using h
      rw [List.flatten_cons, List.getElem?_append_right (by rw [hy, Nat.succ_mul]; omega), hy, show (i + 1) * k + j - k = i * k + j by rw [Nat.succ_mul]; omega]
      exact h2 i j x u h' hu
theorem opens_of {H : Type} {enc : TypeId × Value → H} {P : Program} {w : World} {base : Nat} {sp : Nat → Bool} {held : Bool} : ∀ (fuel : Nat) (t : TypeId) (cs : List Value) (x : DataW H × List MemPlace),
    DataW.trod enc P w base sp held fuel t cs = some x → Opens P w fuel t cs
  | 0, _, _, _, h => by cases h
  | fuel + 1, t, cs, x, h => by
    unfold Opens
    split
    · rename_i ht
      unfold DataW.trod at h
      rw [ht] at h
      split at h <;> simp_all
    · rename_i k ht
      unfold DataW.trod at h
      rw [ht] at h
      split at h <;> simp_all
    · rename_i ht
      unfold DataW.trod at h
      rw [ht] at h
      split at h <;> simp_all
    · rename_i e ht
      rcases DataW.trod_slice ht h with ⟨rfl, _⟩ | ⟨a, len, cap, elems, rest, m, hf, rfl, _, _, h1, h2, h3, hel, _, _⟩
      · exact ⟨none, 0, 0, [], rfl, Nat.le_refl _, Nat.zero_le _, rfl, (fun _ => ⟨rfl, rfl⟩), (fun _ q => by cases q), ⟨by simp, fun q => absurd q (Nat.lt_irrefl _)⟩, fun _ q => by cases q⟩
      · obtain rfl : fuel = m := by omega
        have each : ∀ i, i < len → ∃ cs, w.cells? base (a.add (i * P.cellsOf e)) (P.cellsOf e) = some cs ∧ Opens P w fuel e cs := by
          intro i hi
          have hq := hel i hi
          rw [List.getElem?_eq_getElem (by omega)] at hq
          obtain ⟨cs, hc, hd⟩ := Option.bind_eq_some_iff.1 hq
          exact ⟨cs, hc, opens_of fuel e cs _ hd⟩
        obtain ⟨xs, hxl, hx⟩ : ∃ xs : List (List Value), xs.length = len ∧ ∀ i, i < len → ∃ cs, xs[i]? = some cs ∧ w.cells? base (a.add (i * P.cellsOf e)) (P.cellsOf e) = some cs ∧ Opens P w fuel e cs := by
          revert each
          clear h hel h1 h2 h3
          intro each
          rename_i q1 q2
          clear q1 q2
          induction len with
          | zero => exact ⟨[], rfl, fun i hi => absurd hi (Nat.not_lt_zero _)⟩
          | succ len ih =>
            obtain ⟨xs, h1, h2⟩ := ih (fun i hi => each i (by omega))
            obtain ⟨cs, h3, h4⟩ := each len (by omega)
            refine ⟨xs ++ [cs], by simp [h1], fun i hi => ?_⟩
            rcases Nat.lt_or_ge i len with hlt | hge
            · obtain ⟨c, q1, q2⟩ := h2 i hlt
              exact ⟨c, by rw [List.getElem?_append_left (by omega)]; exact q1, q2⟩
            · obtain rfl : i = len := by omega
              exact ⟨cs, by rw [List.getElem?_append_right (by omega)]; simp [h1], h3, h4⟩
        have hlen : ∀ x ∈ xs, x.length = P.cellsOf e := by
          intro x hx'
          obtain ⟨i, hi⟩ := List.getElem?_of_mem hx'
          have hil := (List.getElem?_eq_some_iff.1 hi).1
          obtain ⟨c, q1, q2, _⟩ := hx i (by omega)
          rw [hi] at q1
          obtain rfl := Option.some.inj q1
          exact (World.cells?_some q2).2.1
        obtain ⟨f1, f2⟩ := flatten_const hlen
        refine ⟨some a, len, cap, xs, rfl, h1, h2, hxl, (fun q => by cases q), hlen, ⟨by rw [f1, hxl], fun _ => ⟨a, rfl, fun j u hu => ?_⟩⟩, fun x hx' => ?_⟩
        · have hj := (List.getElem?_eq_some_iff.1 hu).1
          rw [f1, hxl] at hj
          have hpos : 0 < P.cellsOf e := Nat.pos_of_ne_zero (fun q => by rw [q, Nat.mul_zero] at hj; exact Nat.not_lt_zero _ hj)
          have hdl : j / P.cellsOf e < len := Nat.div_lt_of_lt_mul (by rw [Nat.mul_comm]; exact hj)
          have hml : j % P.cellsOf e < P.cellsOf e := Nat.mod_lt _ hpos
          obtain ⟨c, q1, q2, _⟩ := hx _ hdl
          have hcl := (World.cells?_some q2).2.1
          have hcc := (World.cells?_some q2).2.2 _ hml
          have hjj : j / P.cellsOf e * P.cellsOf e + j % P.cellsOf e = j := by rw [Nat.mul_comm]; exact Nat.div_add_mod j _
          rw [add_add', hjj] at hcc
          have := f2 _ (j % P.cellsOf e) c _ q1 (List.getElem?_eq_getElem (by omega))
          rw [hjj, hu] at this
          rw [hcc, List.getElem?_eq_getElem (by omega), this]
        · obtain ⟨i, hi⟩ := List.getElem?_of_mem hx'
          have hil := (List.getElem?_eq_some_iff.1 hi).1
          obtain ⟨c, q1, _, q3⟩ := hx i (by omega)
          rw [hi] at q1
          obtain rfl := Option.some.inj q1
          exact q3
    · rename_i fs ht
      obtain ⟨xs, m, hf, _, hl, hxl, hx⟩ := DataW.trod_struct ht h
      obtain rfl : fuel = m := by omega
      refine ⟨hl, fun f hf => ?_⟩
      obtain ⟨i, hi⟩ := List.getElem?_of_mem hf
      have hil : i < fs.size := by have := (List.getElem?_eq_some_iff.1 hi).1; simpa using this
      have hq := hx i f (by simpa using hi)
      rw [List.getElem?_eq_getElem (by omega)] at hq
      exact opens_of fuel f.type _ _ hq
    · trivial
theorem flat_one {α : Type} (f : α → Value) : ∀ (l : List α), l.flatMap (fun b => [f b]) = l.map f
  | [] => rfl
  | b :: r => by rw [List.flatMap_cons, List.map_cons, flat_one f r]; rfl
theorem list_choose {α : Type} {f : α → List Value} {p : α → Prop} : ∀ {xs : List (List Value)}, (∀ x ∈ xs, ∃ a, x = f a ∧ p a) → ∃ ys : List α, ys.length = xs.length ∧ xs.flatten = ys.flatMap f ∧ ∀ a ∈ ys, p a
  | [], _ => ⟨[], rfl, rfl, fun _ h => by cases h⟩
  | x :: r, h => by
    obtain ⟨a, rfl, ha⟩ := h x List.mem_cons_self
    obtain ⟨ys, h0, h1, h2⟩ := list_choose (xs := r) (fun x hx => h x (List.mem_cons_of_mem _ hx))
    refine ⟨a :: ys, by simp [h0], by rw [List.flatten_cons, h1, List.flatMap_cons], fun b hb => ?_⟩
    rcases List.mem_cons.1 hb with rfl | hb
    · exact ha
    · exact h2 b hb
section
variable {P : Program} {w : World} {fuel : Nat} {t : TypeId} {cs : List Value}
theorem Opens.bool (h : Opens P w fuel t cs) (ht : P.underlying t = some .bool) : ∃ b, cs = [.bool b] := by
  cases fuel with
  | zero => exact h.elim
  | succ fuel => simp only [Opens, ht] at h; exact h
theorem Opens.int {k : IntKind} (h : Opens P w fuel t cs) (ht : P.underlying t = some (.int k)) : ∃ n, cs = [.int k n] ∧ k.min ≤ n ∧ n ≤ k.max := by
  cases fuel with
  | zero => exact h.elim
  | succ fuel =>
    simp only [Opens, ht] at h
    obtain ⟨n, h1, h2⟩ := h
    have h3 : k.min ≤ n ∧ n ≤ k.max := by simpa [Lit.wf] using h2
    exact ⟨n, h1, h3⟩
theorem Opens.u8 (h : Opens P w fuel t cs) (ht : P.underlying t = some (.int .u8)) : ∃ b : UInt8, cs = [byte b] := by
  obtain ⟨n, rfl, h1, h2⟩ := h.int ht
  refine ⟨UInt8.ofNat n.toNat, ?_⟩
  have h3 : 0 ≤ n := h1
  have h4 : n ≤ 255 := h2
  unfold byte
  rw [UInt8.toNat_ofNat']
  congr 2
  omega
theorem Opens.slice {e : TypeId} (h : Opens P w fuel t cs) (ht : P.underlying t = some (.slice e)) : ∃ (A : Option Addr) (n c : Nat) (xs : List (List Value)) (m : Nat), cs = [.slice A n c] ∧ n ≤ c ∧ c ≤ maxLen ∧ xs.length = n ∧ (A = none → n = 0 ∧ c = 0) ∧ (∀ x ∈ xs, x.length = P.cellsOf e) ∧ Rd (P.cellsOf e) A n xs.flatten w ∧ ∀ x ∈ xs, Opens P w m e x := by
  cases fuel with
  | zero => exact h.elim
  | succ fuel =>
    simp only [Opens, ht] at h
    obtain ⟨A, n, c, xs, r⟩ := h
    exact ⟨A, n, c, xs, fuel, r⟩
theorem Opens.struct {fs : Array Field} (h : Opens P w fuel t cs) (ht : P.underlying t = some (.struct fs)) : ∃ m, cs.length = P.cellsOf t ∧ ∀ f ∈ fs.toList, Opens P w m f.type ((cs.drop f.offset).take (P.cellsOf f.type)) := by
  cases fuel with
  | zero => exact h.elim
  | succ fuel => simp only [Opens, ht] at h; exact ⟨fuel, h⟩
theorem Opens.bytes {e : TypeId} (h : Opens P w fuel t cs) (ht : P.underlying t = some (.slice e)) (he : P.underlying e = some (.int .u8)) (hc : P.cellsOf e = 1) : ∃ (A : Option Addr) (p : List UInt8) (c : Nat), cs = [.slice A p.length c] ∧ p.length ≤ c ∧ c ≤ maxLen ∧ Bs w A p := by
  obtain ⟨A, n, c, xs, m, rfl, h1, h2, rfl, _, _, hr, hx⟩ := h.slice ht
  obtain ⟨p, hpl, hp, _⟩ := list_choose (f := fun b => [byte b]) (p := fun _ => True) (xs := xs) (fun x hx' => by obtain ⟨b, rfl⟩ := (hx x hx').u8 he; exact ⟨b, rfl, trivial⟩)
  have hf : p.flatMap (fun b => [byte b]) = p.map byte := flat_one byte p
  rw [hc, hp, hf] at hr
  rw [← hpl] at hr h1 ⊢
  exact ⟨A, p, c, rfl, h1, h2, hr⟩
end
end Go.Proofs.YtloeaiafphkjnaaGreatDoor.Sx

namespace Go.Proofs.YtloeaiafphkjnaaGreatDoor.Sx
open Go
def u32 (x : UInt32) : Value := .int .u32 (x.toNat : Int)
theorem wrap_u32 (x : Int) : IntKind.u32.wrap x = x % 4294967296 := by simp [IntKind.wrap, IntKind.bits, IntKind.signed]
theorem wrap32_nat (x : Nat) : IntKind.u32.wrap (x : Int) = ((UInt32.ofNat x).toNat : Int) := by
  rw [wrap_u32, UInt32.toNat_ofNat']
  omega
theorem add32 (a b : UInt32) : IntKind.u32.wrap ((a.toNat : Int) + (b.toNat : Int)) = ((a + b).toNat : Int) := by
  rw [wrap_u32, UInt32.toNat_add]
  omega
theorem ofInt32 (a : UInt32) : BitVec.ofInt 32 (a.toNat : Int) = a.toBitVec := by
  apply BitVec.eq_of_toNat_eq
  rw [BitVec.toNat_ofInt]
  have := a.toNat_lt
  have e : a.toBitVec.toNat = a.toNat := rfl
  rw [e]
  omega
theorem back32 (x : BitVec 32) : IntKind.u32.wrap (x.toNat : Int) = ((UInt32.ofBitVec x).toNat : Int) := by
  rw [wrap_u32]
  have := x.isLt
  have e : (UInt32.ofBitVec x).toNat = x.toNat := rfl
  rw [e]
  omega
theorem xor32 (a b : UInt32) : bits .xor .u32 (a.toNat : Int) (b.toNat : Int) = ((a ^^^ b).toNat : Int) := by
  show IntKind.u32.wrap (((BitVec.ofInt 32 (a.toNat : Int)) ^^^ (BitVec.ofInt 32 (b.toNat : Int))).toNat : Int) = _
  rw [ofInt32, ofInt32, back32]
  rfl
theorem and32 (a b : UInt32) : bits .and .u32 (a.toNat : Int) (b.toNat : Int) = ((a &&& b).toNat : Int) := by
  show IntKind.u32.wrap (((BitVec.ofInt 32 (a.toNat : Int)) &&& (BitVec.ofInt 32 (b.toNat : Int))).toNat : Int) = _
  rw [ofInt32, ofInt32, back32]
  rfl
theorem or32 (a b : UInt32) : bits .or .u32 (a.toNat : Int) (b.toNat : Int) = ((a ||| b).toNat : Int) := by
  show IntKind.u32.wrap (((BitVec.ofInt 32 (a.toNat : Int)) ||| (BitVec.ofInt 32 (b.toNat : Int))).toNat : Int) = _
  rw [ofInt32, ofInt32, back32]
  rfl
theorem not32 (a : UInt32) : bits .xor .u32 (if IntKind.u32.signed then -1 else IntKind.u32.max) (a.toNat : Int) = ((~~~ a).toNat : Int) := by
  show IntKind.u32.wrap (((BitVec.ofInt 32 4294967295) ^^^ (BitVec.ofInt 32 (a.toNat : Int))).toNat : Int) = _
  rw [ofInt32, back32]
  have e : UInt32.ofBitVec (BitVec.ofInt 32 4294967295 ^^^ a.toBitVec) = ~~~ a := by
    apply UInt32.toBitVec_inj.1
    show BitVec.ofInt 32 4294967295 ^^^ a.toBitVec = ~~~ a.toBitVec
    have : BitVec.ofInt 32 4294967295 = BitVec.allOnes 32 := by decide
    rw [this, BitVec.allOnes_xor]
  rw [e]
theorem shl32 (a : UInt32) (n : Nat) (hn : n < 32) : IntKind.u32.wrap ((a.toNat : Int) * 2 ^ (min (n : Int).toNat IntKind.u32.bits)) = ((a <<< UInt32.ofNat n).toNat : Int) := by
  have h1 : min (n : Int).toNat IntKind.u32.bits = n := by show min n 32 = n; omega
  rw [h1, wrap_u32, UInt32.toNat_shiftLeft, UInt32.toNat_ofNat', Nat.mod_eq_of_lt (show n < 2 ^ 32 by omega), Nat.mod_eq_of_lt hn, Nat.shiftLeft_eq]
  have : ((a.toNat : Int) * 2 ^ n) = ((a.toNat * 2 ^ n : Nat) : Int) := by push_cast; rfl
  rw [this]
  omega
theorem shr32 (a : UInt32) (n : Nat) (hn : n < 32) : (a.toNat : Int).fdiv (2 ^ (min (n : Int).toNat IntKind.u32.bits)) = ((a >>> UInt32.ofNat n).toNat : Int) := by
  have h1 : min (n : Int).toNat IntKind.u32.bits = n := by show min n 32 = n; omega
  rw [h1, UInt32.toNat_shiftRight, UInt32.toNat_ofNat', Nat.mod_eq_of_lt (show n < 2 ^ 32 by omega), Nat.mod_eq_of_lt hn, Nat.shiftRight_eq_div_pow]
  have : (2 ^ n : Int) = ((2 ^ n : Nat) : Int) := by push_cast; rfl
  rw [this, Int.fdiv_eq_ediv_of_nonneg _ (Int.natCast_nonneg _)]
  exact (Int.natCast_ediv _ _).symm
#print axioms shr32
end Go.Proofs.YtloeaiafphkjnaaGreatDoor.Sx

namespace Go.Proofs.YtloeaiafphkjnaaGreatDoor.Sha
def K : List UInt32 := [
    0x428a2f98, 0x71374491, 0xb5c0fbcf, 0xe9b5dba5, 0x3956c25b, 0x59f111f1, 0x923f82a4, 0xab1c5ed5,
    0xd807aa98, 0x12835b01, 0x243185be, 0x550c7dc3, 0x72be5d74, 0x80deb1fe, 0x9bdc06a7, 0xc19bf174,
    0xe49b69c1, 0xefbe4786, 0x0fc19dc6, 0x240ca1cc, 0x2de92c6f, 0x4a7484aa, 0x5cb0a9dc, 0x76f988da,
    0x983e5152, 0xa831c66d, 0xb00327c8, 0xbf597fc7, 0xc6e00bf3, 0xd5a79147, 0x06ca6351, 0x14292967,
    0x27b70a85, 0x2e1b2138, 0x4d2c6dfc, 0x53380d13, 0x650a7354, 0x766a0abb, 0x81c2c92e, 0x92722c85,
    0xa2bfe8a1, 0xa81a664b, 0xc24b8b70, 0xc76c51a3, 0xd192e819, 0xd6990624, 0xf40e3585, 0x106aa070,
    0x19a4c116, 0x1e376c08, 0x2748774c, 0x34b0bcb5, 0x391c0cb3, 0x4ed8aa4a, 0x5b9cca4f, 0x682e6ff3,
    0x748f82ee, 0x78a5636f, 0x84c87814, 0x8cc70208, 0x90befffa, 0xa4506ceb, 0xbef9a3f7, 0xc67178f2]
def rotr (x : UInt32) (n : Nat) : UInt32 := x >>> UInt32.ofNat n ||| x <<< UInt32.ofNat (32 - n)
theorem rotl_eq (x : UInt32) (n : Nat) : x <<< UInt32.ofNat (32 - n) ||| x >>> UInt32.ofNat n = rotr x n := by unfold rotr; exact UInt32.or_comm _ _
def word (a b c d : UInt8) : UInt32 := UInt32.ofNat (a.toNat * 16777216 + b.toNat * 65536 + c.toNat * 256 + d.toNat)
def wordAt (p : List UInt8) (i : Nat) : UInt32 := word (p.getD (4 * i) 0) (p.getD (4 * i + 1) 0) (p.getD (4 * i + 2) 0) (p.getD (4 * i + 3) 0)
def s0 (a : UInt32) : UInt32 := rotr a 7 ^^^ rotr a 18 ^^^ a >>> 3
def s1 (b : UInt32) : UInt32 := rotr b 17 ^^^ rotr b 19 ^^^ b >>> 10
def nxt (w : List UInt32) (i : Nat) : UInt32 := w.getD (i - 16) 0 + s0 (w.getD (i - 15) 0) + w.getD (i - 7) 0 + s1 (w.getD (i - 2) 0)
def sched (p : List UInt8) : Nat → List UInt32
  | 0 => []
  | n + 1 => let w := sched p n; w ++ [if n < 16 then wordAt p n else nxt w n]
theorem sched_len (p : List UInt8) : ∀ n, (sched p n).length = n
  | 0 => rfl
  | n + 1 => by simp [sched, sched_len p n]
def W (p : List UInt8) : List UInt32 := sched p 64
theorem W_len (p : List UInt8) : (W p).length = 64 := sched_len p 64
structure S8 where
  a : UInt32
  b : UInt32
  c : UInt32
  d : UInt32
  e : UInt32
  f : UInt32
  g : UInt32
  h : UInt32
def S8.l (s : S8) : List UInt32 := [s.a, s.b, s.c, s.d, s.e, s.f, s.g, s.h]
def first : S8 := ⟨0x6a09e667, 0xbb67ae85, 0x3c6ef372, 0xa54ff53a, 0x510e527f, 0x9b05688c, 0x1f83d9ab, 0x5be0cd19⟩
def S8.x (s : S8) (k w : UInt32) : UInt32 := s.h + (rotr s.e 6 ^^^ rotr s.e 11 ^^^ rotr s.e 25) + (s.e &&& s.f ^^^ ~~~ s.e &&& s.g) + k + w
def S8.y (s : S8) : UInt32 := rotr s.a 2 ^^^ rotr s.a 13 ^^^ rotr s.a 22
def S8.z (s : S8) : UInt32 := s.a &&& s.b ^^^ s.a &&& s.c ^^^ s.b &&& s.c
def S8.round (s : S8) (k w : UInt32) : S8 := ⟨s.x k w + s.y + s.z, s.a, s.b, s.c, s.d + s.x k w, s.e, s.f, s.g⟩
def rounds (s : S8) (w : List UInt32) : Nat → S8
  | 0 => s
  | n + 1 => (rounds s w n).round (K.getD n 0) (w.getD n 0)
def S8.add (s t : S8) : S8 := ⟨s.a + t.a, s.b + t.b, s.c + t.c, s.d + t.d, s.e + t.e, s.f + t.f, s.g + t.g, s.h + t.h⟩
def step (s : S8) (p : List UInt8) : S8 := s.add (rounds s (W p) 64)
def go : Nat → S8 → List UInt8 → S8
  | 0, s, _ => s
  | n + 1, s, p => go n (step s (p.take 64)) (p.drop 64)
def b4 (x : UInt32) : List UInt8 := [(x >>> 24).toUInt8, (x >>> 16).toUInt8, (x >>> 8).toUInt8, x.toUInt8]
def out (s : S8) : List UInt8 := s.l.flatMap b4
def long (n : Nat) : List UInt8 := [56, 48, 40, 32, 24, 16, 8, 0].map fun k => UInt8.ofNat (n / 2 ^ k)
def zeros (n : Nat) : Nat := (119 - n % 64) % 64
def ends (n : Nat) : List UInt8 := 0x80 :: (List.replicate (zeros n) 0 ++ long (8 * n))
theorem long_len (n : Nat) : (long n).length = 8 := rfl
theorem ends_len (n : Nat) : (ends n).length = 9 + zeros n := by simp [ends, long_len]; omega
theorem pad_mod (p : List UInt8) : (p ++ ends p.length).length % 64 = 0 := by
  rw [List.length_append, ends_len]; unfold zeros; omega
def sum (p : List UInt8) : List UInt8 := let q := p ++ ends p.length; out (go (q.length / 64) first q)
end Go.Proofs.YtloeaiafphkjnaaGreatDoor.Sha

namespace Go.Proofs.YtloeaiafphkjnaaGreatDoor.Nam
structure Fm where
  size : Nat
  mask : UInt8
  lead : UInt8
  least : Nat
def fms : List Fm := [⟨1, 0x80, 0, 0⟩, ⟨2, 0xe0, 0xc0, 0x80⟩, ⟨3, 0xf0, 0xe0, 0x800⟩, ⟨4, 0xf8, 0xf0, 0x10000⟩]
end Go.Proofs.YtloeaiafphkjnaaGreatDoor.Nam

namespace Go.Proofs.YtloeaiafphkjnaaGreatDoor.Sx
open Go
def heldF (β : Va) (H : List Bk) (F : List Fact) (ps : List (Nat × Obj)) : Fact where
  own := true
  D := fun k => (∃ b ∈ H, β b.id = k) ∨ (∃ f ∈ F, f.D k) ∨ (∃ p ∈ ps, p.1 = k)
  p := fun w => (∀ b ∈ H, w.heap[β b.id]? = some (.cells (b.cells.map (SL.val β)).toArray b.ty (0, 0))) ∧ (∀ f ∈ F, f.p w) ∧ (∀ p ∈ ps, w.heap[p.1]? = some p.2)
  st := fun w w' hs h => ⟨fun b hb => by rw [hs _ (.inl ⟨b, hb, rfl⟩)]; exact h.1 b hb, fun f hf => f.st w w' (fun k hk => hs k (.inr (.inl ⟨f, hf, hk⟩))) (h.2.1 f hf), fun p hp => by rw [hs _ (.inr (.inr ⟨p, hp, rfl⟩))]; exact h.2.2 p hp⟩
def readF (Fs : List Fact) : Fact where
  own := false
  D := Un Fs
  p := fun w => ∀ f ∈ Fs, f.p w
  st := fun w w' hs h f hf => f.st w w' (fun k hk => hs k ⟨f, hf, hk⟩) (h f hf)
structure Sta (β : Va) (n : Nat) (H : List Bk) (F : List Fact) (ps : List (Nat × Obj)) : Prop where
  inj : H.Pairwise (fun b c => β b.id ≠ β c.id)
  ltb : ∀ b ∈ H, b.id < n ∧ ∀ x ∈ b.cells, x.lt n
  sepb : ∀ f ∈ F, ∀ b ∈ H, ¬ f.D (β b.id)
  sepf : F.Pairwise (fun f g => f.own = true ∨ g.own = true → ∀ k, f.D k → ¬ g.D k)
  own : Owns F
  pinf : ∀ p ∈ ps, p.2.isCells = false ∧ ∀ f ∈ F, ¬ f.D p.1
def gv (X : Fact) : List Fact := match X.own with | true => [X] | false => []
theorem gv_own {X : Fact} (h : X.own = true) : gv X = [X] := by unfold gv; rw [h]
theorem gv_not {X : Fact} (h : X.own = false) : gv X = [] := by unfold gv; rw [h]
def Yc {α : Type} (P : Program) (l : Nat) (J Jx : List α → Fact → Prop) (R : Fact) (ins : List α → α → Array Value → Fact → Prop) : Prop :=
  ∀ (pre : List α) (x : α) (f : Fact) (w : World) (args : Array Value) (X : Fact), J pre f → Mem w [f, R, X] → ins pre x args X →
    Yld P l args w fun v w' => ∃ f', Chg (Un (f :: gv X)) w w' ∧ f'.own = true ∧ f'.p w' ∧ (∀ k, f'.D k → (Un (f :: gv X) k ∨ w.heap.size ≤ k) ∧ k < w'.heap.size) ∧
      ((v = .bool true ∧ J (pre ++ [x]) f') ∨ (v = .bool false ∧ Jx (pre ++ [x]) f'))
abbrev rcx (cx : Cx) (w : World) (S : Nat → Prop) (l : Nat) (bs : List Nat) (pn : List (Nat × Obj)) : Cx := ⟨cx.P, w, S, cx.N, cx.tt, cx.fns, bs, some l, pn⟩
theorem rcx_good {cx : Cx} (g : Good cx) {w : World} {S : Nat → Prop} {l : Nat} {bs : List Nat} {pn : List (Nat × Obj)} : Good (rcx cx w S l bs pn) := ⟨g.ok, g.fn, g.mixed⟩
def bindP (N : Nat) : List Tmp → List Value → Env → Option Env
  | [], [], e => some e
  | t :: ts, v :: vs, e => match Nat.blt t N with | true => bindP N ts vs ((t, ofValue v) :: e) | false => none
  | _, _, _ => none
def norm (k : KT) : Exit → KT
  | .normal => k
  | _ => fun _ _ _ _ => False
def jumpOf : Exit → Option Code
  | .ret => some .ret
  | .exit id => some (.exit id)
  | _ => none
section
variable {cx : Cx} {β : Va} {n : Nat} {env : Env} {H : List Bk} {F : List Fact} {a : Act} {w w' : World}
theorem bindP_ag {N : Nat} : ∀ (ts : List Tmp) (vs : List Value) (e e' : Env) (tmps : Array Value), bindP N ts vs e = some e' → tmps.size = N → (∀ t s, get e t = some s → tmps[t]? = some (s.val β)) → (∀ t s, get e t = some s → s.lt n) →
    (((ts.zip vs).foldl (fun t (q : Tmp × Value) => t.setIfInBounds q.1 q.2) tmps).size = N) ∧ (∀ t s, get e' t = some s → ((ts.zip vs).foldl (fun t (q : Tmp × Value) => t.setIfInBounds q.1 q.2) tmps)[t]? = some (s.val β)) ∧ (∀ t s, get e' t = some s → s.lt n) ∧ ts.length = vs.length
  | [], [], e, e', tmps, h, hN, hag, hlt => by
    simp only [bindP, Option.some.injEq] at h
    subst h
    exact ⟨hN, hag, hlt, rfl⟩
  | t :: ts, v :: vs, e, e', tmps, h, hN, hag, hlt => by
    simp only [bindP] at h
    cases hb : Nat.blt t N with
    | false => rw [hb] at h; cases h
    | true =>
      rw [hb] at h
      have ht : t < N := by simpa [Nat.blt_eq] using hb
      have := bindP_ag ts vs _ e' (tmps.setIfInBounds t v) h (by simp [hN]) ?_ ?_
      · exact ⟨this.1, this.2.1, this.2.2.1, by simp [this.2.2.2]⟩
      · intro u s hu
        by_cases htu : t = u
        · subst htu
          rw [get_same] at hu
          obtain rfl := Option.some.inj hu
          rw [Array.getElem?_setIfInBounds]
          simp [hN, ht, ofValue_val]
        · rw [get_other _ _ htu] at hu
          rw [Array.getElem?_setIfInBounds_ne htu]
          exact hag u s hu
      · intro u s hu
        by_cases htu : t = u
        · subst htu
          rw [get_same] at hu
          obtain rfl := Option.some.inj hu
          exact ofValue_lt _ _
        · rw [get_other _ _ htu] at hu
          exact hlt u s hu
  | [], _ :: _, _, _, _, h, _, _, _ => by cases h
  | _ :: _, [], _, _, _, h, _, _, _ => by cases h
theorem Mem.three {f R X : Fact} {w : World} (hf : f.own = true) (_hR : R.own = false) (h : Mem w [f, R, X]) : f.p w ∧ R.p w ∧ X.p w ∧ (∀ k, f.D k → k < w.heap.size) ∧ (∀ k, R.D k → k < w.heap.size) ∧ (∀ k, X.D k → k < w.heap.size) ∧ (∀ k, f.D k → ¬ R.D k) ∧ (∀ k, f.D k → ¬ X.D k) ∧ (X.own = true → ∀ k, R.D k → ¬ X.D k) := by
  have h1 := List.pairwise_cons.1 h.sepf
  have h2 := List.pairwise_cons.1 h1.2
  exact ⟨h.fact f (by simp), h.fact R (by simp), h.fact X (by simp), h.flt f (by simp), h.flt R (by simp), h.flt X (by simp), h1.1 R (by simp) (.inl hf), h1.1 X (by simp) (.inl hf), fun q => h2.1 X (by simp) (.inr q)⟩
theorem round_sat {Fr : List Fact} {X : Fact} {ps : List (Nat × Obj)} (hst : Sta β n H F ps) (hFr : ∀ g ∈ Fr, g.own = false)
    (hm : Mem w [heldF β H F ps, readF Fr, X]) {n0 : Nat} (hn : n0 ≤ n) {bs : List Nat} (hbs : bs.length = n0) (hbi : ∀ i, i < n0 → β i = bs.getD i 0) {l : Nat} {r : Loop} (hl : (l, Obj.loop r) ∈ ps) (hps : β.pins = ps) (hmk : β.marks = []) :
    Sat (rcx cx w (Un (heldF β H F ps :: gv X)) l bs ps) β n H (X :: F ++ Fr) w := by
  obtain ⟨h1, h2, h3, h4, h5, h6, h7, h8, h9⟩ := hm.three rfl rfl
  have inS : ∀ k, (heldF β H F ps).D k → Un (heldF β H F ps :: gv X) k := fun k hk => ⟨_, List.mem_cons_self, hk⟩
  have hmemF : ∀ f ∈ X :: F ++ Fr, f = X ∨ f ∈ F ∨ f ∈ Fr := by
    intro f hf
    rcases List.mem_append.1 hf with hf | hf
    · rcases List.mem_cons.1 hf with rfl | hf
      · exact .inl rfl
      · exact .inr (.inl hf)
    · exact .inr (.inr hf)
  refine ⟨Chg.refl _ _, ⟨by show bs.length ≤ n; omega, fun i hi => hbi i (by rw [← hbs]; exact hi)⟩, h1.1, fun b hb => .inl (inS _ (.inl ⟨b, hb, rfl⟩)), hst.inj, hst.ltb, fun f hf => ?_, fun f hf k hk => ?_, fun f hf b hb q => ?_, fun f hf ho k hk => ?_, ?_, fun p hp => ?_, ⟨by rw [hmk]; exact List.nodup_nil, fun q hq => by rw [hmk] at hq; cases hq⟩, ⟨fun p hp => by rw [hps]; exact hp, fun l' hl' => ⟨hmk, r, by rw [hps]; obtain rfl : l = l' := Option.some.inj hl'; exact hl⟩⟩⟩
  · rcases hmemF f hf with rfl | hf | hf
    · exact h3
    · exact h1.2.1 f hf
    · exact h2 f hf
  · rcases hmemF f hf with rfl | hf | hf
    · exact h6 k hk
    · exact h4 k (.inr (.inl ⟨f, hf, hk⟩))
    · exact h5 k ⟨f, hf, hk⟩
  · rcases hmemF f hf with rfl | hf | hf
    · exact h8 _ (.inl ⟨b, hb, rfl⟩) q
    · exact hst.sepb f hf b hb q
    · exact h7 _ (.inl ⟨b, hb, rfl⟩) ⟨f, hf, q⟩
  · rcases hmemF f hf with rfl | hf | hf
    · exact .inl ⟨f, List.mem_cons_of_mem _ (by rw [gv_own ho]; exact List.mem_singleton.2 rfl), hk⟩
    · exact .inl (inS _ (.inr (.inl ⟨f, hf, hk⟩)))
    · rw [hFr f hf] at ho; cases ho
  · refine List.pairwise_append.2 ⟨List.pairwise_cons.2 ⟨fun g hg _ k hk hk' => h8 k (.inr (.inl ⟨g, hg, hk'⟩)) hk, hst.sepf⟩, ?_, fun f hf g hg ho k hk hk' => ?_⟩
    · refine List.pairwise_iff_getElem.2 fun i j hi hj _ ho => ?_
      rw [hFr _ (List.getElem_mem hi), hFr _ (List.getElem_mem hj)] at ho
      rcases ho with q | q <;> cases q
    · rcases List.mem_cons.1 hf with rfl | hf
      · rw [hFr g hg] at ho
        exact h9 (ho.resolve_right (by decide)) k ⟨g, hg, hk'⟩ hk
      · exact h7 k (.inr (.inl ⟨f, hf, hk⟩)) ⟨g, hg, hk'⟩
  · rw [hps] at hp
    refine ⟨h1.2.2 p hp, (hst.pinf p hp).1, fun f hf q => ?_⟩
    rcases hmemF f hf with rfl | hf | hf
    · exact h8 _ (.inr (.inr ⟨p, hp, rfl⟩)) q
    · exact (hst.pinf p hp).2 f hf q
    · exact h7 _ (.inr (.inr ⟨p, hp, rfl⟩)) ⟨f, hf, q⟩
theorem Sat.repin {W0 : World} {S : Nat → Prop} {l : Nat} {bs : List Nat} {o o' : Obj} {P0 : List (Nat × Obj)} (h : Sat (rcx cx W0 S l bs ((l, o) :: P0)) β n H F w) (ho' : o'.isCells = false) (hr : ∃ r, o' = Obj.loop r) (hP : ∀ p ∈ P0, p.1 ≠ l) (hS : S l) :
    Sat (rcx cx W0 S l bs ((l, o') :: P0)) ⟨β.b, (l, o') :: P0, []⟩ n H F (w.putObj l o') := by
  have hlp : (l, o) ∈ β.pins := h.rnd.1 _ List.mem_cons_self
  have hlf : ∀ f ∈ F, ¬ f.D l := (h.pin _ hlp).2.2
  have hll : l < w.heap.size := h.pinLt hlp
  have hoth : ∀ k, k ≠ l → (w.putObj l o').heap[k]? = w.heap[k]? := fun k hk => World.putObj_heap_other hk
  refine ⟨⟨h.chg.os, h.chg.tape, h.chg.output, by rw [World.putObj_size]; exact h.chg.size, fun k hk hs => ?_⟩, h.fix, fun b hb => ?_, h.mine, h.inj, h.ltb, fun f hf => ?_, fun f hf k hk => ?_, h.sepb, h.fown, h.sepf, fun p hp => ?_, ⟨List.nodup_nil, fun q hq => by cases hq⟩, ⟨fun p hp => hp, fun l' hl' => ⟨rfl, ?_⟩⟩⟩
  · rw [hoth k (fun q => hs (q ▸ hS))]; exact h.chg.same k hk hs
  · rw [hoth _ (h.pinBk hlp hb)]; exact h.blk b hb
  · exact f.st _ _ (fun k hk => hoth k (fun q => by subst q; exact hlf f hf hk)) (h.fact f hf)
  · rw [World.putObj_size]; exact h.flt f hf k hk
  · rcases List.mem_cons.1 hp with rfl | hp
    · exact ⟨World.putObj_heap_same hll, ho', hlf⟩
    · have := h.pin p (h.rnd.1 p (List.mem_cons_of_mem _ hp))
      exact ⟨by rw [hoth _ (hP p hp)]; exact this.1, this.2⟩
  · obtain ⟨r, rfl⟩ := hr
    obtain rfl : l = l' := Option.some.inj hl'
    exact ⟨r, List.mem_cons_self⟩
theorem round_end {W0 : World} {S : Nat → Prop} {l : Nat} {bs : List Nat} {o o' : Obj} {P0 : List (Nat × Obj)} (h : Sat (rcx cx W0 S l bs ((l, o) :: P0)) β n H F w) (hown : Owns F) (ho : ∃ r, o' = Obj.loop r) (hP : ∀ p ∈ P0, p.1 ≠ l) (hS : ∀ p ∈ (l, o) :: P0, S p.1) :
    Chg S W0 (w.putObj l o') ∧ (heldF β H F ((l, o') :: P0)).p (w.putObj l o') ∧ (∀ k, (heldF β H F ((l, o') :: P0)).D k → (S k ∨ W0.heap.size ≤ k) ∧ k < (w.putObj l o').heap.size) ∧ Sta β n H F ((l, o') :: P0) := by
  have h' := h.repin (by obtain ⟨r, rfl⟩ := ho; rfl) ho hP (hS _ List.mem_cons_self)
  refine ⟨h'.chg, ⟨h'.blk, h'.fact, fun p hp => (h'.pin p hp).1⟩, fun k hk => ?_, ⟨h.inj, h.ltb, h.sepb, h.sepf, hown, fun p hp => (h'.pin p hp).2⟩⟩
  rcases hk with ⟨b, hb, rfl⟩ | ⟨f, hf, hk⟩ | ⟨p, hp, rfl⟩
  · exact ⟨h'.mine b hb, h'.lt hb⟩
  · exact ⟨h'.fown f hf (hown.mem f hf) k hk, h'.flt f hf k hk⟩
  · refine ⟨.inl ?_, h'.pinLt hp⟩
    rcases List.mem_cons.1 hp with rfl | hp
    · exact hS (l, o) List.mem_cons_self
    · exact hS p (List.mem_cons_of_mem _ hp)
theorem range_end {β0 β' : Va} {H0 Hn : List Bk} {Gi Ri F0 Fr Fn Fs : List Fact} {w1 w2 : World} {l : Nat} {o o' o2 : Obj} {P0 : List (Nat × Obj)} {mks : List Nat} {n0 : Nat}
    (hs : Sat cx β0 n H0 (Gi ++ (Ri ++ (F0 ++ Fr))) w) (hGi : Owns Gi) (hF0 : Owns F0)
    (hc1 : Chg None_ w w1) (hl : w.heap.size ≤ l) (hP0 : ∀ p ∈ P0, w1.heap[p.1]? = some p.2 ∧ p.2.isCells = false ∧ p.1 ≠ l ∧ (p ∈ β0.pins ∨ w.heap.size ≤ p.1)) (hPb : ∀ p ∈ β0.pins, p ∈ P0)
    (hc2 : Chg (Un (heldF β0 H0 F0 ((l, o) :: P0) :: Gi)) w1 w2) (hm : Mem w2 (heldF β' Hn Fn ((l, o') :: P0) :: Fs))
    (hD : ∀ f ∈ heldF β' Hn Fn ((l, o') :: P0) :: Fs, ∀ k, f.D k → Un (heldF β0 H0 F0 ((l, o) :: P0) :: Gi) k ∨ w1.heap.size ≤ k) (hst : Sta β' n Hn Fn ((l, o') :: P0))
    (hn0 : cx.bs.length ≤ n0) (hag : ∀ i, i < n0 → β' i = β0 i) (hmk : mks.Nodup ∧ ∀ r ∈ mks, (r, Obj.deferred (some [])) ∈ P0 ∧ cx.W0.heap.size ≤ r) (hmr : ∀ l', cx.rnd = some l' → mks = []) :
    Sat cx ⟨β'.b, P0, mks⟩ n Hn (Fs ++ (Fn ++ Fr)) (w2.putObj l o2) := by
  obtain ⟨sG, sRest, cG⟩ := List.pairwise_append.1 hs.sepf
  obtain ⟨_, sRest2, _⟩ := List.pairwise_append.1 sRest
  obtain ⟨sF0, sFr, cF0⟩ := List.pairwise_append.1 sRest2
  have mG : ∀ g ∈ Gi, g ∈ Gi ++ (Ri ++ (F0 ++ Fr)) := fun g hg => by simp [hg]
  have mF0 : ∀ g ∈ F0, g ∈ Gi ++ (Ri ++ (F0 ++ Fr)) := fun g hg => by simp [hg]
  have mFr : ∀ g ∈ Fr, g ∈ Gi ++ (Ri ++ (F0 ++ Fr)) := fun g hg => by simp [hg]
  have hfp := hm.fact _ List.mem_cons_self
  obtain ⟨hfs, hfd⟩ := List.pairwise_cons.1 hm.sepf
  have hoth : ∀ k, k ≠ l → (w2.putObj l o2).heap[k]? = w2.heap[k]? := fun k hk => World.putObj_heap_other hk
  have hsz : w.heap.size ≤ w1.heap.size := hc1.size
  have D1 : ∀ k, Un (heldF β0 H0 F0 ((l, o) :: P0) :: Gi) k → (∃ b ∈ H0, β0 b.id = k) ∨ (∃ g ∈ F0, g.D k) ∨ k = l ∨ (∃ p ∈ P0, p.1 = k) ∨ (∃ g ∈ Gi, g.D k) := by
    rintro k ⟨g, hg, hk⟩
    rcases List.mem_cons.1 hg with rfl | hg
    · rcases hk with q | q | ⟨p, hp, q⟩
      · exact .inl q
      · exact .inr (.inl q)
      · rcases List.mem_cons.1 hp with rfl | hp
        · exact .inr (.inr (.inl q.symm))
        · exact .inr (.inr (.inr (.inl ⟨p, hp, q⟩)))
    · exact .inr (.inr (.inr (.inr ⟨g, hg, hk⟩)))
  have D2 : ∀ k, Un (heldF β0 H0 F0 ((l, o) :: P0) :: Gi) k ∨ w1.heap.size ≤ k → k ≠ l → (∀ p ∈ P0, p.1 ≠ k) → (cx.S k ∨ cx.W0.heap.size ≤ k) ∧ ∀ g ∈ Fr, ¬ g.D k := by
    intro k hk hkl hkp
    rcases hk with hk | hk
    · rcases D1 k hk with ⟨b, hb, rfl⟩ | ⟨g, hg, q⟩ | q | ⟨p, hp, q⟩ | ⟨g, hg, q⟩
      · exact ⟨hs.mine b hb, fun d hd => hs.sepb d (mFr d hd) b hb⟩
      · exact ⟨hs.fown g (mF0 g hg) (hF0.mem g hg) k q, fun d hd => cF0 g hg d hd (.inl (hF0.mem g hg)) k q⟩
      · exact (hkl q).elim
      · exact (hkp p hp q).elim
      · exact ⟨hs.fown g (mG g hg) (hGi.mem g hg) k q, fun d hd => cG g hg d (by simp [hd]) (.inl (hGi.mem g hg)) k q⟩
    · exact ⟨.inr (Nat.le_trans hs.chg.size (Nat.le_trans hsz hk)), fun d hd q => by have := hs.flt d (mFr d hd) k q; omega⟩
  have pinO : ∀ p ∈ ((l, o') :: P0), w2.heap[p.1]? = some p.2 ∧ p.2.isCells = false := fun p hp => ⟨hfp.2.2 p hp, (hst.pinf p hp).1⟩
  have bkNP : ∀ b ∈ Hn, β' b.id ≠ l ∧ ∀ p ∈ P0, p.1 ≠ β' b.id := by
    intro b hb
    have h1 := hfp.1 b hb
    have key : ∀ p ∈ ((l, o') :: P0), p.1 ≠ β' b.id := by
      intro p hp q
      have h2 := pinO p hp
      rw [q, h1] at h2
      have h3 := h2.2
      rw [← Option.some.inj h2.1] at h3
      cases h3
    exact ⟨fun q => key (l, o') List.mem_cons_self q.symm, fun p hp => key p (List.mem_cons_of_mem _ hp)⟩
  have fnNP : ∀ f ∈ Fn, ∀ k, f.D k → k ≠ l ∧ ∀ p ∈ P0, p.1 ≠ k := fun f hf k hk => ⟨fun q => (hst.pinf (l, o') List.mem_cons_self).2 f hf (q ▸ hk), fun p hp q => (hst.pinf p (List.mem_cons_of_mem _ hp)).2 f hf (q ▸ hk)⟩
  have fsNP : ∀ f ∈ Fs, ∀ k, f.D k → k ≠ l ∧ ∀ p ∈ P0, p.1 ≠ k := fun f hf k hk => ⟨fun q => hfs f hf (.inl rfl) k (.inr (.inr ⟨(l, o'), List.mem_cons_self, q.symm⟩)) hk, fun p hp q => hfs f hf (.inl rfl) k (.inr (.inr ⟨p, List.mem_cons_of_mem _ hp, q⟩)) hk⟩
  have bkD : ∀ b ∈ Hn, (cx.S (β' b.id) ∨ cx.W0.heap.size ≤ β' b.id) ∧ ∀ g ∈ Fr, ¬ g.D (β' b.id) := fun b hb => D2 _ (hD _ List.mem_cons_self _ (.inl ⟨b, hb, rfl⟩)) (bkNP b hb).1 (bkNP b hb).2
  have fnD : ∀ f ∈ Fn, ∀ k, f.D k → (cx.S k ∨ cx.W0.heap.size ≤ k) ∧ ∀ g ∈ Fr, ¬ g.D k := fun f hf k hk => D2 _ (hD _ List.mem_cons_self _ (.inr (.inl ⟨f, hf, hk⟩))) (fnNP f hf k hk).1 (fnNP f hf k hk).2
  have fsD : ∀ f ∈ Fs, ∀ k, f.D k → (cx.S k ∨ cx.W0.heap.size ≤ k) ∧ ∀ g ∈ Fr, ¬ g.D k := fun f hf k hk => D2 _ (hD _ (List.mem_cons_of_mem _ hf) _ hk) (fsNP f hf k hk).1 (fsNP f hf k hk).2
  have frl : ∀ g ∈ Fr, ∀ k, g.D k → k < w.heap.size := fun g hg => hs.flt g (mFr g hg)
  have frNU : ∀ g ∈ Fr, ∀ k, g.D k → ¬ Un (heldF β0 H0 F0 ((l, o) :: P0) :: Gi) k := by
    intro g hg k hk q
    by_cases hkl : k = l
    · have := frl g hg k hk; omega
    by_cases hkp : ∀ p ∈ P0, p.1 ≠ k
    · exact (D2 k (.inl q) hkl hkp).2 g hg hk
    · simp only [Classical.not_forall, Decidable.not_not] at hkp
      obtain ⟨p, hp, rfl⟩ := hkp
      rcases (hP0 p hp).2.2.2 with q2 | q2
      · exact (hs.pin p q2).2.2 g (mFr g hg) hk
      · have := frl g hg _ hk; omega
  have cases3 : ∀ f ∈ Fs ++ (Fn ++ Fr), f ∈ Fs ∨ f ∈ Fn ∨ f ∈ Fr := fun f hf => by
    rcases List.mem_append.1 hf with q | q
    · exact .inl q
    · exact .inr (List.mem_append.1 q)
  refine ⟨?_, ⟨hs.fix.1, fun i hi => (hag i (Nat.lt_of_lt_of_le hi hn0)).trans (hs.fix.2 i hi)⟩, fun b hb => ?_, fun b hb => (bkD b hb).1, hst.inj, hst.ltb, fun f hf => ?_, fun f hf k hk => ?_, fun f hf b hb q => ?_, fun f hf ho k hk => ?_, ?_, fun p hp => ⟨?_, (hP0 p hp).2.1, fun f hf q => ?_⟩, hmk,
    ⟨fun p hp => hPb p (hs.rnd.1 p hp), fun l' hl' => ⟨hmr l' hl', by obtain ⟨r, hr⟩ := (hs.rnd.2 l' hl').2; exact ⟨r, hPb _ hr⟩⟩⟩⟩
  · refine ⟨hc2.os.trans (hc1.os.trans hs.chg.os), hc2.tape.trans (hc1.tape.trans hs.chg.tape), hc2.output.trans (hc1.output.trans hs.chg.output), ?_, fun k hk hns => ?_⟩
    · rw [World.putObj_size]; exact Nat.le_trans hs.chg.size (Nat.le_trans hsz hc2.size)
    · have hkw : k < w.heap.size := Nat.lt_of_lt_of_le hk hs.chg.size
      have hkl : k ≠ l := by omega
      rw [hoth k hkl]
      have e1 : w1.heap[k]? = cx.W0.heap[k]? := (hc1.same k hkw (fun q => q)).trans (hs.chg.same k hk hns)
      by_cases hU : Un (heldF β0 H0 F0 ((l, o) :: P0) :: Gi) k
      · by_cases hkp : ∀ p ∈ P0, p.1 ≠ k
        · rcases (D2 k (.inl hU) hkl hkp).1 with q | q
          · exact (hns q).elim
          · omega
        · simp only [Classical.not_forall, Decidable.not_not] at hkp
          obtain ⟨p, hp, rfl⟩ := hkp
          rw [(pinO p (List.mem_cons_of_mem _ hp)).1, ← e1, (hP0 p hp).1]
      · rw [hc2.same k (by omega) hU, e1]
  · rw [hoth _ (bkNP b hb).1]; exact hfp.1 b hb
  · rcases cases3 f hf with hf | hf | hf
    · exact f.st _ _ (fun k hk => hoth k (fsNP f hf k hk).1) (hm.fact f (List.mem_cons_of_mem _ hf))
    · exact f.st _ _ (fun k hk => hoth k (fnNP f hf k hk).1) (hfp.2.1 f hf)
    · refine f.st _ _ (fun k hk => ?_) (hs.fact f (mFr f hf))
      have := frl f hf k hk
      rw [hoth k (by omega), hc2.same k (by omega) (frNU f hf k hk), hc1.same k this (fun q => q)]
  · rw [World.putObj_size]
    rcases cases3 f hf with hf | hf | hf
    · exact hm.flt f (List.mem_cons_of_mem _ hf) k hk
    · exact hm.flt _ List.mem_cons_self k (.inr (.inl ⟨f, hf, hk⟩))
    · exact Nat.lt_of_lt_of_le (frl f hf k hk) (Nat.le_trans hsz hc2.size)
  · rcases cases3 f hf with hf | hf | hf
    · exact hfs f hf (.inl rfl) _ (.inl ⟨b, hb, rfl⟩) q
    · exact hst.sepb f hf b hb q
    · exact (bkD b hb).2 f hf q
  · rcases cases3 f hf with hf | hf | hf
    · exact (fsD f hf k hk).1
    · exact (fnD f hf k hk).1
    · exact hs.fown f (mFr f hf) ho k hk
  · refine List.pairwise_append.2 ⟨hfd, List.pairwise_append.2 ⟨hst.sepf, sFr, fun f hf g hg _ k hk => (fnD f hf k hk).2 g hg⟩, fun f hf g hg ho k hk hk' => ?_⟩
    rcases List.mem_append.1 hg with hg | hg
    · exact hfs f hf (.inl rfl) k (.inr (.inl ⟨g, hg, hk'⟩)) hk
    · exact (fsD f hf k hk).2 g hg hk'
  · rw [hoth _ (hP0 p hp).2.2.1]; exact (pinO p (List.mem_cons_of_mem _ hp)).1
  · rcases cases3 f hf with hf | hf | hf
    · exact (fsNP f hf _ q).2 p hp rfl
    · exact (fnNP f hf _ q).2 p hp rfl
    · rcases (hP0 p hp).2.2.2 with q2 | q2
      · exact (hs.pin p q2).2.2 f (mFr f hf) q
      · have := frl f hf _ q; omega
theorem SL.val_eqb {β β' : Va} (h : β.b = β'.b) (x : SL) : x.val β = x.val β' := by
  cases x with
  | v x => rfl
  | p id o => simp only [SL.val, h]
theorem SV.val_eqb {β β' : Va} (h : β.b = β'.b) (s : SV) : s.val β = s.val β' := by
  have : SL.val β = SL.val β' := funext (SL.val_eqb h)
  cases s <;> simp only [SV.val, this]
theorem callable_run {P : Program} {k : FuncId} (hcall : callable P k = true) (args : Array Value) (w : World) : (callFunc k args).run P w = .ok (.enter k args) w := by
  unfold callable at hcall
  cases hq : P.funcs[k]? with
  | none => rw [hq] at hcall; cases hcall
  | some fn =>
    rw [hq] at hcall
    simp only [Bool.and_eq_true, Bool.not_eq_true'] at hcall
    obtain ⟨hb, hn⟩ := hcall
    have hn' : ¬ fn.name = "runtime.NumGoroutine" := by simpa using hn
    have hb' : ¬ fn.body = none := by intro q; rw [q] at hb; cases hb
    simp [callFunc, hq, hn', hb']
theorem enter_loop (h : Sat cx β n H F w) (fn : FuncId) (tmps : Array Value) (ps : Array Tmp) (assign body : Code) :
    ∃ (l : Nat) (mk : List Nat) (w1 : World) (d : Nat) (newp : List (Nat × Obj)), (Instr.enterLoop fn tmps ps assign body cx.rnd).run cx.P w = .ok (l, mk.map (fun r => { target := .collected r, args := #[] })) w1 ∧ Chg None_ w w1 ∧ w.heap.size ≤ l ∧
      w1.heap[l]? = some (.loop { state := .ready, pending := none, fn, tmps, params := ps, assign, body, defers := d }) ∧ (∀ p ∈ newp, w1.heap[p.1]? = some p.2 ∧ p.2.isCells = false ∧ p.1 ≠ l ∧ w.heap.size ≤ p.1) ∧
      mk.Nodup ∧ (∀ r ∈ mk, (r, Obj.deferred (some [])) ∈ newp ∧ w.heap.size ≤ r) ∧ (∀ l', cx.rnd = some l' → mk = []) := by
  cases hr : cx.rnd with
  | none =>
    refine ⟨w.heap.size + 1, [w.heap.size], _, w.heap.size, [(w.heap.size, .deferred (some []))], run_enterLoop_outer fn tmps ps assign body, ?_, by omega, ?_, fun p hp => ?_, by simp, fun r hr' => ?_, fun l' hl' => by cases hl'⟩
    · exact Chg.trans (S := None_) (T := None_) (U := None_) (Chg.alloc w _) (Chg.alloc _ _) (fun _ _ q => q) (fun _ _ q => q)
    · have := World.alloc_heap_new (w.alloc (.deferred (some []))) (.loop { state := .ready, pending := none, fn, tmps, params := ps, assign, body, defers := w.heap.size }); rwa [World.size_alloc] at this
    · obtain rfl := List.mem_singleton.1 hp
      exact ⟨(RowKit.Below.heap_alloc _ _ _ (by simp)).trans (World.alloc_heap_new w _), rfl, by simp, Nat.le_refl _⟩
    · obtain rfl := List.mem_singleton.1 hr'
      exact ⟨List.mem_singleton.2 rfl, Nat.le_refl _⟩
  | some l0 =>
    obtain ⟨r0, hr0⟩ := (h.rnd.2 l0 hr).2
    refine ⟨w.heap.size, [], _, r0.defers, [], run_enterLoop_inner (h.pin _ hr0).1 fn tmps ps assign body, Chg.alloc w _, Nat.le_refl _, World.alloc_heap_new w _, (fun p hp => by cases hp), List.nodup_nil, (fun r hr' => by cases hr'), fun _ _ => rfl⟩
def RoundQ {α ι κ : Type} (cx : Cx) (n' : Nat) (Pre : List α → ι → Prop) (HH : ι → List Bk) (FF : ι → List Fact) (Stp : Exit → List α → κ → Prop) (HX : κ → List Bk) (FX : κ → List Fact) (pre : List α) : Exit → KT
  | .normal => fun m env H F => ∃ j, Pre pre j ∧ Ent cx m env H F n' [] (HH j) (FF j)
  | .ret => fun m env H F => ∃ j, Stp .ret pre j ∧ Ent cx m env H F n' [] (HX j) (FX j)
  | .exit id => fun m env H F => ∃ j, Stp (.exit id) pre j ∧ Ent cx m env H F n' [] (HX j) (FX j)
  | _ => fun _ _ _ _ => False
theorem range_ruleP {α ι κ : Type} (g : Good cx) {fo : Operand} {ps : Array Tmp} {assign body : Code} {Q : Exit → KT} {k : FuncId} {cv : List Value} {sv : SV}
    (hsv : ev env fo = some sv) (hfn : fnOf sv = some (k, [], cv.map SL.v)) (hcall : callable cx.P k = true) (n' : Nat) (hn' : n ≤ n')
    (Pre : List α → ι → Prop) (HH : ι → List Bk) (FF : ι → List Fact) (hFF : ∀ i, Owns (FF i))
    (Stp : Exit → List α → κ → Prop) (HX : κ → List Bk) (FX : κ → List Fact) (hFX : ∀ j, Owns (FX j))
    (Gi Ri Fr : List Fact) (hGi : Owns Gi) (hFr : ∀ g ∈ Fr, g.own = false)
    (i0 : ι) (h0 : Pre [] i0) (hent : ∀ β w, Sat cx β n H F w → ∃ β', Agr n β β' ∧ Sat cx β' n' (HH i0) (Gi ++ (Ri ++ (FF i0 ++ Fr))) w)
    (ins : List α → α → Array Value → Fact → Prop) (Done Stopd : List α → List Fact → Prop)
    (hit : ∀ (l : Nat) (w : World) (f0 R : Fact) (J Jx : List α → Fact → Prop), J [] f0 → (∀ pre f, J pre f → f.own = true) → R.own = false → Yc cx.P l J Jx R ins → (∀ pre f, J pre f → ∃ i, Pre pre i) → Mem w (f0 :: R :: (Gi ++ Ri)) →
      Con cx.P k (#[Value.func (.yield l) #[] #[]] ++ cv.toArray) w (f0 :: Gi) (fun _ Fs => ∃ f Fs', Fs = f :: Fs' ∧ ((∃ xs, J xs f ∧ Done xs Fs') ∨ (∃ pre, Jx pre f ∧ Stopd pre Fs'))))
    (hround : ∀ (i : ι) (pre : List α) (x : α) (args : Array Value) (X : Fact) (W : World) (S : Nat → Prop) (l : Nat) (bs : List Nat) (pn pn' : List (Nat × Obj)), bs.length ≤ n' → Pre pre i → ins pre x args X → ∃ er, bindP cx.N ps.toList args.toList env = some er ∧
      cwp (rcx cx W S l bs pn) assign (norm (cwp (rcx cx W S l bs pn') body (RoundQ (rcx cx W S l bs pn') n' Pre HH FF Stp HX FX (pre ++ [x])))) n' er (HH i) (X :: FF i ++ Fr))
    (hdone : ∀ xs i Fs, Pre xs i → Done xs Fs → Q .normal n' env (HH i) (Fs ++ (FF i ++ Fr)))
    (hstop : ∀ e pre j Fs, Stp e pre j → Stopd pre Fs → Q e n' env (HX j) (Fs ++ (FX j ++ Fr))) :
    Tri cx (.rangeFunc fo ps assign body) Q n env H F := by
  refine ⟨fun β a w hi => ?_⟩
  obtain ⟨β0, hag0, hs0⟩ := hent β w hi.sat
  obtain ⟨hev, _⟩ := hi.ev hsv
  have hval : a.eval fo = .func (.func k) #[] cv.toArray := by
    rw [hev]
    unfold fnOf at hfn
    split at hfn
    · simp only [Option.some.injEq, Prod.mk.injEq, List.map_eq_nil_iff, Array.toList_eq_nil_iff] at hfn
      obtain ⟨rfl, rfl, h3⟩ := hfn
      have : _ = cv := (List.map_inj_right (f := SL.v) (fun x y q => by injection q)).1 h3
      simp only [SV.val, SL.val, ← this]
    · simp only [Option.some.injEq, Prod.mk.injEq] at hfn
      obtain ⟨rfl, rfl, rfl⟩ := hfn
      simp [SV.val, SL.val, Function.comp_def]
    · cases hfn
  refine wpIn_rangeFunc fun fn _ => ?_
  rw [cx.fence_round]
  obtain ⟨l, mk, w1, dd, newp, hrun, hc1, hll, hrec, hnewp, hmk1, hmk2, hmk3⟩ := enter_loop hs0 fn a.tmps ps assign body
  obtain ⟨rec, hrecD⟩ : ∃ rec : LoopState → Option Code → Loop, rec = fun st pe => { state := st, pending := pe, fn, tmps := a.tmps, params := ps, assign, body, defers := dd } := ⟨_, rfl⟩
  have hrec' : w1.heap[l]? = some (.loop (rec .ready none)) := by rw [hrecD]; exact hrec
  obtain ⟨P0, hP0D⟩ : ∃ P0, P0 = newp ++ β0.pins := ⟨_, rfl⟩
  have hP0 : ∀ p ∈ P0, w1.heap[p.1]? = some p.2 ∧ p.2.isCells = false ∧ p.1 ≠ l ∧ (p ∈ β0.pins ∨ w.heap.size ≤ p.1) := by
    intro p hp
    rw [hP0D] at hp
    rcases List.mem_append.1 hp with hp | hp
    · exact ⟨(hnewp p hp).1, (hnewp p hp).2.1, (hnewp p hp).2.2.1, .inr (hnewp p hp).2.2.2⟩
    · have := hs0.pinLt hp
      exact ⟨by rw [hc1.same _ this (fun q => q)]; exact (hs0.pin p hp).1, (hs0.pin p hp).2.1, by omega, .inl hp⟩
  have hPb : ∀ p ∈ β0.pins, p ∈ P0 := fun p hp => by rw [hP0D]; exact List.mem_append_right _ hp
  have hPl : ∀ p ∈ P0, p.1 ≠ l := fun p hp => (hP0 p hp).2.2.1
  -- what the rounds own, at each of their ends
  let J : List α → Fact → Prop := fun pre f => ∃ (i : ι) (β' : Va), Pre pre i ∧ (∀ q, q < n → β' q = β0 q) ∧ Sta β' n' (HH i) (FF i) ((l, .loop (rec .ready none)) :: P0) ∧ f = heldF β' (HH i) (FF i) ((l, .loop (rec .ready none)) :: P0)
  let Jx : List α → Fact → Prop := fun pre f => ∃ (e : Exit) (c : Code) (j : κ) (β' : Va), jumpOf e = some c ∧ Stp e pre j ∧ (∀ q, q < n → β' q = β0 q) ∧ Sta β' n' (HX j) (FX j) ((l, .loop (rec .done (some c))) :: P0) ∧ f = heldF β' (HX j) (FX j) ((l, .loop (rec .done (some c))) :: P0)
  have mF0 : ∀ f ∈ FF i0, f ∈ Gi ++ (Ri ++ (FF i0 ++ Fr)) := fun f hf => by simp [hf]
  have mFr : ∀ f ∈ Fr, f ∈ Gi ++ (Ri ++ (FF i0 ++ Fr)) := fun f hf => by simp [hf]
  have mGR : ∀ f ∈ Gi ++ Ri, f ∈ Gi ++ (Ri ++ (FF i0 ++ Fr)) := fun f hf => by rcases List.mem_append.1 hf with q | q <;> simp [q]
  have hsz : w.heap.size ≤ w1.heap.size := hc1.size
  have hpinf : ∀ f ∈ Gi ++ (Ri ++ (FF i0 ++ Fr)), ∀ p ∈ ((l, Obj.loop (rec .ready none)) :: P0), ¬ f.D p.1 := by
    intro f hf p hp q
    rcases List.mem_cons.1 hp with rfl | hp
    · have := hs0.flt f hf l q; omega
    · rcases (hP0 p hp).2.2.2 with q2 | q2
      · exact (hs0.pin p q2).2.2 f hf q
      · have := hs0.flt f hf _ q; omega
  have hsta0 : Sta β0 n' (HH i0) (FF i0) ((l, .loop (rec .ready none)) :: P0) := by
    refine ⟨hs0.inj, hs0.ltb, fun f hf => hs0.sepb f (mF0 f hf), ?_, hFF i0, fun p hp => ⟨?_, fun f hf => hpinf f (mF0 f hf) p hp⟩⟩
    · exact (List.pairwise_append.1 (List.pairwise_append.1 (List.pairwise_append.1 hs0.sepf).2.1).2.1).1
    · rcases List.mem_cons.1 hp with rfl | hp
      · rfl
      · exact (hP0 p hp).2.1
  have hsat1 := hs0.same hc1
  have hmem1 : Mem w1 (heldF β0 (HH i0) (FF i0) ((l, .loop (rec .ready none)) :: P0) :: readF Fr :: (Gi ++ Ri)) := by
    obtain ⟨sG, sRest, cG⟩ := List.pairwise_append.1 hs0.sepf
    obtain ⟨sR, sRest2, cR⟩ := List.pairwise_append.1 sRest
    obtain ⟨_, _, cF0⟩ := List.pairwise_append.1 sRest2
    have dsep : ∀ d ∈ Gi ++ (Ri ++ Fr), ∀ q, (heldF β0 (HH i0) (FF i0) ((l, .loop (rec .ready none)) :: P0)).D q → ¬ d.D q := by
      intro d hd q hq hdq
      have hdm : d ∈ Gi ++ (Ri ++ (FF i0 ++ Fr)) := by
        rcases List.mem_append.1 hd with x | x
        · simp [x]
        · rcases List.mem_append.1 x with x | x <;> simp [x]
      rcases hq with ⟨b, hb, rfl⟩ | ⟨f, hf, hk⟩ | ⟨p, hp, rfl⟩
      · exact hs0.sepb d hdm b hb hdq
      · rcases List.mem_append.1 hd with x | x
        · exact cG d x f (by simp [hf]) (.inr ((hFF i0).mem f hf)) q hdq hk
        · rcases List.mem_append.1 x with x | x
          · exact cR d x f (by simp [hf]) (.inr ((hFF i0).mem f hf)) q hdq hk
          · exact cF0 f hf d x (.inl ((hFF i0).mem f hf)) q hk hdq
      · exact hpinf d hdm p hp hdq
    refine ⟨fun f hf => ?_, fun f hf q hq => ?_, List.pairwise_cons.2 ⟨fun d hd _ q hq => ?_, List.pairwise_cons.2 ⟨fun d hd ho q hq hdq => ?_, ?_⟩⟩⟩
    · rcases List.mem_cons.1 hf with rfl | hf
      · refine ⟨hsat1.blk, fun f hf => hsat1.fact f (mF0 f hf), fun p hp => ?_⟩
        rcases List.mem_cons.1 hp with rfl | hp
        · exact hrec'
        · exact (hP0 p hp).1
      · rcases List.mem_cons.1 hf with rfl | hf
        · exact fun f hf => hsat1.fact f (mFr f hf)
        · exact hsat1.fact f (mGR f hf)
    · rcases List.mem_cons.1 hf with rfl | hf
      · rcases hq with ⟨b, hb, rfl⟩ | ⟨f, hf, hk⟩ | ⟨p, hp, rfl⟩
        · exact hsat1.lt hb
        · exact hsat1.flt f (mF0 f hf) q hk
        · rcases List.mem_cons.1 hp with rfl | hp
          · exact (Array.getElem?_eq_some_iff.1 hrec').1
          · exact (Array.getElem?_eq_some_iff.1 (hP0 p hp).1).1
      · rcases List.mem_cons.1 hf with rfl | hf
        · obtain ⟨f, hf, hk⟩ := hq; exact hsat1.flt f (mFr f hf) q hk
        · exact hsat1.flt f (mGR f hf) q hq
    · rcases List.mem_cons.1 hd with rfl | hd
      · rintro ⟨d', hd', hk⟩
        exact dsep d' (by simp [hd']) q hq hk
      · refine dsep d ?_ q hq
        rcases List.mem_append.1 hd with x | x <;> simp [x]
    · obtain ⟨d', hd', hk⟩ := hq
      have hdo : d.own = true := ho.resolve_left (by simp [readF])
      rcases List.mem_append.1 hd with x | x
      · exact cG d x d' (by simp [hd']) (.inl hdo) q hdq hk
      · exact cR d x d' (by simp [hd']) (.inl hdo) q hdq hk
    · refine List.pairwise_append.2 ⟨sG, sR, fun f hf d hd => cG f hf d (by simp [hd])⟩
  -- one round
  have hY : Yc cx.P l J Jx (readF Fr) ins := by
    rintro pre x f wy args X ⟨i, β', hpre, hagb, hsta, rfl⟩ hm hx
    obtain ⟨hf1, _, _, hf4, _⟩ := hm.three rfl rfl
    have hlrec := hf1.2.2 _ List.mem_cons_self
    simp only at hlrec
    have hps' := hround i pre x args X wy (Un (heldF β' (HH i) (FF i) ((l, .loop (rec .ready none)) :: P0) :: gv X)) l ((List.range n).map β0) ((l, .loop (rec .ready none)) :: P0) ((l, .loop (rec .busy none)) :: P0) (by simpa using hn') hpre hx
    obtain ⟨er, hbind, hcwp⟩ := hps'
    have hszt : a.tmps.size = cx.N := hi.size
    have hagA : ∀ t s, get env t = some s → a.tmps[t]? = some (s.val (⟨β'.b, ((l, .loop (rec .ready none)) :: P0), []⟩ : Va)) := by
      intro t s ht
      rw [hi.ag t s ht]
      congr 1
      have h1 : s.val β0 = s.val β := SV.val_congr hag0 (hi.lte t s ht)
      have h2 : s.val (⟨β'.b, ((l, .loop (rec .ready none)) :: P0), []⟩ : Va) = s.val (⟨β0.b, ((l, .loop (rec .ready none)) :: P0), []⟩ : Va) := SV.val_congr (n := n) (β := (⟨β0.b, ((l, .loop (rec .ready none)) :: P0), []⟩ : Va)) (β' := (⟨β'.b, ((l, .loop (rec .ready none)) :: P0), []⟩ : Va)) ⟨rfl, rfl, hagb⟩ (hi.lte t s ht)
      have h3 : s.val (⟨β0.b, ((l, .loop (rec .ready none)) :: P0), []⟩ : Va) = s.val β0 := SV.val_eqb rfl s
      rw [← h1, ← h3, ← h2]
    have hb4 := bindP_ag (n := n') ps.toList args.toList env er a.tmps hbind hszt hagA (fun t s ht => SV.lt_mono hn' (hi.lte t s ht))
    have hasz : args.size = ps.size := by have := hb4.2.2.2; simpa using this.symm
    refine ⟨fn, (ps.zip args).foldl (fun tmps (t, v) => tmps.setIfInBounds t v) a.tmps, assign, body, ?_, ?_⟩
    · have := run_yield (P := cx.P) (args := args) hlrec (by rw [hrecD]; exact hasz)
      rw [hrecD] at this
      exact this
    · have hfence : ∀ pn, (rcx cx wy (Un (heldF β' (HH i) (FF i) ((l, .loop (rec .ready none)) :: P0) :: gv X)) l ((List.range n).map β0) pn).fence = Fence.wide.inRound l := fun _ => rfl
      refine roundIn_of_wpIn trivial ?_
      have hsat : Sat (rcx cx wy (Un (heldF β' (HH i) (FF i) ((l, .loop (rec .ready none)) :: P0) :: gv X)) l ((List.range n).map β0) ((l, .loop (rec .ready none)) :: P0)) ⟨β'.b, ((l, .loop (rec .ready none)) :: P0), []⟩ n' (HH i) (X :: FF i ++ Fr) wy :=
        round_sat (β := ⟨β'.b, ((l, .loop (rec .ready none)) :: P0), []⟩) ⟨hsta.inj, hsta.ltb, hsta.sepb, hsta.sepf, hsta.own, hsta.pinf⟩ hFr hm hn' (by simp) (fun q hq => by simp [hq, hagb q hq]) List.mem_cons_self rfl rfl
      have hw1 := (cwp_sound (rcx_good g) _ _ _ _ _ _ hcwp).run ⟨β'.b, ((l, .loop (rec .ready none)) :: P0), []⟩ { tmps := (ps.toList.zip args.toList).foldl (fun t (q : Tmp × Value) => t.setIfInBounds q.1 q.2) a.tmps, defers := [] } wy ⟨hb4.2.1, hb4.1, rfl, hb4.2.2.1, hsat⟩
      rw [hfence] at hw1
      have htmp : (ps.zip args).foldl (fun tmps (t, v) => tmps.setIfInBounds t v) a.tmps = (ps.toList.zip args.toList).foldl (fun t (q : Tmp × Value) => t.setIfInBounds q.1 q.2) a.tmps := by
        rw [← Array.foldl_toList, Array.toList_zip]
      rw [htmp]
      refine wpIn_mono hw1 fun e a1 wa hq => ?_
      cases e with
      | normal =>
        obtain ⟨β1, n1, env1, H1, F1, hi1, hq1⟩ := hq
        have hl1 := (hi1.sat.pin _ (hi1.sat.rnd.1 _ List.mem_cons_self)).1
        simp only at hl1
        refine ⟨_, run_beginRound hl1 (by rw [hrecD]), ?_⟩
        have hSl : Un (heldF β' (HH i) (FF i) ((l, .loop (rec .ready none)) :: P0) :: gv X) l := ⟨_, List.mem_cons_self, .inr (.inr ⟨_, List.mem_cons_self, rfl⟩)⟩
        have hs2 := hi1.sat.repin (o' := .loop (rec .busy none)) rfl ⟨_, rfl⟩ hPl hSl
        have hi2 : Inv (rcx cx wy (Un (heldF β' (HH i) (FF i) ((l, .loop (rec .ready none)) :: P0) :: gv X)) l ((List.range n).map β0) ((l, .loop (rec .busy none)) :: P0)) ⟨β1.b, ((l, .loop (rec .busy none)) :: P0), []⟩ n1 env1 H1 F1 a1 (wa.putObj l (.loop (rec .busy none))) := by
          refine ⟨fun t s ht => ?_, hi1.size, ?_, hi1.lte, hs2⟩
          · rw [hi1.ag t s ht]
            congr 1
          · have := hi1.df
            rw [(hi1.sat.rnd.2 l rfl).1] at this
            exact this
        have hrb : ({ rec .ready none with state := .busy } : Loop) = rec .busy none := by rw [hrecD]
        rw [hrb]
        have hw2 := (cwp_sound (rcx_good g) _ _ _ _ _ _ hq1).run _ _ _ hi2
        rw [hfence] at hw2
        refine wpIn_mono hw2 fun e2 a2 wb hq2 => ?_
        have hSp : ∀ p ∈ (l, Obj.loop (rec .busy none)) :: P0, Un (heldF β' (HH i) (FF i) ((l, .loop (rec .ready none)) :: P0) :: gv X) p.1 := by
          intro p hp
          rcases List.mem_cons.1 hp with rfl | hp
          · exact hSl
          · exact ⟨_, List.mem_cons_self, .inr (.inr ⟨p, List.mem_cons_of_mem _ hp, rfl⟩)⟩
        have stopx : ∀ (e : Exit) (c : Code), jumpOf e = some c → After (rcx cx wy (Un (heldF β' (HH i) (FF i) ((l, .loop (rec .ready none)) :: P0) :: gv X)) l ((List.range n).map β0) ((l, .loop (rec .busy none)) :: P0)) (fun m env H F => ∃ j, Stp e (pre ++ [x]) j ∧ Ent (rcx cx wy (Un (heldF β' (HH i) (FF i) ((l, .loop (rec .ready none)) :: P0) :: gv X)) l ((List.range n).map β0) ((l, .loop (rec .busy none)) :: P0)) m env H F n' [] (HX j) (FX j)) a2 wb →
            ∃ v w4, (Instr.endRound l (some c)).run cx.P wb = .ok v w4 ∧ ∃ u, Ending.returned v = .returned u ∧ ∃ f', Chg (Un (heldF β' (HH i) (FF i) ((l, .loop (rec .ready none)) :: P0) :: gv X)) wy w4 ∧ f'.own = true ∧ f'.p w4 ∧ (∀ k, f'.D k → (Un (heldF β' (HH i) (FF i) ((l, .loop (rec .ready none)) :: P0) :: gv X) k ∨ wy.heap.size ≤ k) ∧ k < w4.heap.size) ∧ ((u = .bool true ∧ J (pre ++ [x]) f') ∨ (u = .bool false ∧ Jx (pre ++ [x]) f')) := by
          rintro e c hc ⟨β2, n2, env2, H2, F2, hi3, j, hst, hentj⟩
          obtain ⟨β3, _, _, hi4⟩ := hentj.run β2 a2 wb hi3
          have hl3 := (hi4.sat.pin _ (hi4.sat.rnd.1 _ List.mem_cons_self)).1
          simp only at hl3
          have her := run_endRound (P := cx.P) (some c) hl3
          simp only [Option.isNone_some, Bool.false_eq_true, if_false] at her
          have hrd : ({ rec .busy none with state := .done, pending := some c } : Loop) = rec .done (some c) := by rw [hrecD]
          rw [hrd] at her
          obtain ⟨q1, q2, q3, q4⟩ := round_end hi4.sat (hFX j) (o' := .loop (rec .done (some c))) ⟨_, rfl⟩ hPl hSp
          refine ⟨_, _, her, _, rfl, _, q1, rfl, q2, q3, .inr ⟨rfl, e, c, j, β3, hc, hst, fun q hq => ?_, q4, rfl⟩⟩
          have := hi4.sat.fix.2 q (by simpa [rcx] using hq)
          rw [this]
          simp [rcx, hq]
        cases e2 with
        | normal =>
          obtain ⟨β2, n2, env2, H2, F2, hi3, j, hst, hentj⟩ := hq2
          obtain ⟨β3, _, _, hi4⟩ := hentj.run β2 a2 wb hi3
          have hl3 := (hi4.sat.pin _ (hi4.sat.rnd.1 _ List.mem_cons_self)).1
          simp only at hl3
          have her := run_endRound (P := cx.P) none hl3
          simp only [Option.isNone_none, if_true] at her
          have hrd : ({ rec .busy none with state := .ready, pending := none } : Loop) = rec .ready none := by rw [hrecD]
          rw [hrd] at her
          obtain ⟨q1, q2, q3, q4⟩ := round_end hi4.sat (hFF j) (o' := .loop (rec .ready none)) ⟨_, rfl⟩ hPl hSp
          refine ⟨_, _, her, _, rfl, _, q1, rfl, q2, q3, .inl ⟨rfl, j, β3, hst, fun q hq => ?_, q4, rfl⟩⟩
          have := hi4.sat.fix.2 q (by simpa [rcx] using hq)
          rw [this]
          simp [rcx, hq]
        | ret => exact stopx .ret .ret rfl hq2
        | exit id => exact stopx (.exit id) (.exit id) rfl hq2
        | goto t => obtain ⟨_, _, _, _, _, _, q⟩ := hq2; exact q.elim
        | panic c => exact hq2.elim
        | outgrown => exact hq2.elim
      | ret => obtain ⟨_, _, _, _, _, _, q⟩ := hq; exact q.elim
      | exit id => obtain ⟨_, _, _, _, _, _, q⟩ := hq; exact q.elim
      | goto t => obtain ⟨_, _, _, _, _, _, q⟩ := hq; exact q.elim
      | panic c => exact hq.elim
      | outgrown => exact hq.elim
  have hcon := hit l w1 _ (readF Fr) J Jx ⟨i0, β0, h0, fun _ _ => rfl, hsta0, rfl⟩ (fun pre f ⟨_, _, _, _, _, e⟩ => by rw [e]; rfl) rfl hY (fun pre f ⟨i, _, h, _⟩ => ⟨i, h⟩) hmem1
  refine ⟨l, _, w1, { target := .fn (.func k) cv.toArray, args := #[.func (.yield l) #[] #[]] }, w1, k, #[.func (.yield l) #[] #[]] ++ cv.toArray, w1, hrun, ?_, fun f' _ => cx.fence_fn f', ?_, fun q => (by rw [cx.fence_depth] at q; cases q), ?_⟩
  · simp only [resolve, hval]
    simp [go_sem]
  · simp [invoke, go_sem, callable_run hcall]
  · refine CallsIn.mono (callsIn_fence cx (callsIn_wide (n := 0 - 1).2 hcon)) fun e w2 hq => ?_
    obtain ⟨v, rfl, Fs, ⟨f, Fs', rfl, hJ⟩, hch, hm2, hown2, hD2⟩ := hq
    have hmks : (mk ++ β0.marks).Nodup ∧ ∀ r ∈ mk ++ β0.marks, (r, Obj.deferred (some [])) ∈ P0 ∧ cx.W0.heap.size ≤ r := by
      refine ⟨List.nodup_append.2 ⟨hmk1, hs0.mrk.1, fun r hr r' hr' q => ?_⟩, fun r hr => ?_⟩
      · subst q
        have h1 := (hmk2 r hr).2
        have h2 := hs0.pinLt (hs0.mrk.2 r hr').1
        simp only at h2
        omega
      · rcases List.mem_append.1 hr with hr | hr
        · exact ⟨by rw [hP0D]; exact List.mem_append_left _ (hmk2 r hr).1, Nat.le_trans hs0.chg.size (hmk2 r hr).2⟩
        · exact ⟨hPb _ (hs0.mrk.2 r hr).1, (hs0.mrk.2 r hr).2⟩
    have hmr : ∀ l', cx.rnd = some l' → mk ++ β0.marks = [] := fun l' hl' => by rw [hmk3 l' hl', (hs0.rnd.2 l' hl').1]; rfl
    have hbsn : cx.bs.length ≤ n := hi.sat.fix.1
    have fin : ∀ (β' : Va) (Hn : List Bk) (Fn : List Fact) (w4 : World) (K : KT), (∀ q, q < n → β' q = β0 q) → Sat cx ⟨β'.b, P0, mk ++ β0.marks⟩ n' Hn (Fs' ++ (Fn ++ Fr)) w4 → K n' env Hn (Fs' ++ (Fn ++ Fr)) →
        After cx K { a with defers := mk.map (fun r => { target := .collected r, args := #[] }) ++ a.defers } w4 := by
      intro β' Hn Fn w4 K hagb hsat hK
      refine ⟨_, n', env, Hn, _, ⟨fun t s ht => ?_, hi.size, ?_, fun t s ht => SV.lt_mono hn' (hi.lte t s ht), hsat⟩, hK⟩
      · show a.tmps[t]? = _
        rw [hi.ag t s ht]
        congr 1
        have key : ∀ y : SL, y.lt n → y.val (⟨β'.b, P0, mk ++ β0.marks⟩ : Va) = y.val β := fun y hy => by
          cases y with
          | v x => rfl
          | p id o => simp only [SL.val]; rw [← hag0.at_ id hy]; exact congrArg (fun z => Value.pointer (some ⟨z, o, none⟩)) (hagb id hy)
        have hlt := hi.lte t s ht
        cases s with
        | c x => exact (key x hlt).symm
        | agg xs => simp only [SV.val]; congr 2; exact List.map_congr_left fun x hx => (key x (hlt x hx)).symm
        | fn f u v => simp only [SV.val]; congr 2 <;> exact List.map_congr_left fun x hx => (key x (by first | exact hlt.1 x hx | exact hlt.2 x hx)).symm
      · show _ ++ a.defers = _
        rw [hi.df, ← hag0.marks, List.map_append]
    rcases hJ with ⟨xs, ⟨i, β', hpre, hagb, hsta, rfl⟩, hdn⟩ | ⟨pre, ⟨e, c, j, β', hc, hst, hagb, hsta, rfl⟩, hsd⟩
    · have hl2 := (hm2.fact _ List.mem_cons_self).2.2 _ List.mem_cons_self
      simp only at hl2
      have hel := run_endLoop (P := cx.P) hl2 (by rw [hrecD]; simp)
      have hpd : (rec .ready none).pending = none := by rw [hrecD]
      rw [hpd] at hel
      exact ⟨none, _, hel, fin β' (HH i) (FF i) _ _ hagb (range_end hs0 hGi (hFF i0) hc1 hll hP0 hPb hch hm2 hD2 hsta hbsn hagb hmks hmr) (hdone xs i Fs' hpre hdn)⟩
    · have hl2 := (hm2.fact _ List.mem_cons_self).2.2 _ List.mem_cons_self
      simp only at hl2
      have hel := run_endLoop (P := cx.P) hl2 (by rw [hrecD]; simp)
      have hpd : (rec .done (some c)).pending = some c := by rw [hrecD]
      rw [hpd] at hel
      refine ⟨some c, _, hel, ?_⟩
      have hA := fin β' (HX j) (FX j) _ (Q e) hagb (range_end (o2 := .loop { rec .done (some c) with state := .exhausted, pending := some c }) hs0 hGi (hFF i0) hc1 hll hP0 hPb hch hm2 hD2 hsta hbsn hagb hmks hmr) (hstop e pre j Fs' hst hsd)
      cases e <;> simp only [jumpOf, Option.some.injEq, reduceCtorEq] at hc
      · subst hc; exact wpIn_exit hA
      · subst hc; exact wpIn_ret hA
theorem range_rule {α ι κ : Type} (g : Good cx) {fo : Operand} {ps : Array Tmp} {assign body : Code} {Q : Exit → KT} {k : FuncId} {cv : List Value} {sv : SV}
    (hsv : ev env fo = some sv) (hfn : fnOf sv = some (k, [], cv.map SL.v)) (hcall : callable cx.P k = true) (n' : Nat) (hn' : n ≤ n')
    (Pre : List α → ι → Prop) (HH : ι → List Bk) (FF : ι → List Fact) (hFF : ∀ i, Owns (FF i))
    (Stp : Exit → List α → κ → Prop) (HX : κ → List Bk) (FX : κ → List Fact) (hFX : ∀ j, Owns (FX j))
    (Gi Ri Fr : List Fact) (hGi : Owns Gi) (hFr : ∀ g ∈ Fr, g.own = false)
    (i0 : ι) (h0 : Pre [] i0) (hent : ∀ β w, Sat cx β n H F w → ∃ β', Agr n β β' ∧ Sat cx β' n' (HH i0) (Gi ++ (Ri ++ (FF i0 ++ Fr))) w)
    (ins : List α → α → Array Value → Fact → Prop) (Done Stopd : List α → List Fact → Prop)
    (hit : ∀ (l : Nat) (w : World) (f0 R : Fact) (J Jx : List α → Fact → Prop), J [] f0 → (∀ pre f, J pre f → f.own = true) → R.own = false → Yc cx.P l J Jx R ins → Mem w (f0 :: R :: (Gi ++ Ri)) →
      Con cx.P k (#[Value.func (.yield l) #[] #[]] ++ cv.toArray) w (f0 :: Gi) (fun _ Fs => ∃ f Fs', Fs = f :: Fs' ∧ ((∃ xs, J xs f ∧ Done xs Fs') ∨ (∃ pre, Jx pre f ∧ Stopd pre Fs'))))
    (hround : ∀ (i : ι) (pre : List α) (x : α) (args : Array Value) (X : Fact) (W : World) (S : Nat → Prop) (l : Nat) (bs : List Nat) (pn pn' : List (Nat × Obj)), bs.length ≤ n' → Pre pre i → ins pre x args X → ∃ er, bindP cx.N ps.toList args.toList env = some er ∧
      cwp (rcx cx W S l bs pn) assign (norm (cwp (rcx cx W S l bs pn') body (RoundQ (rcx cx W S l bs pn') n' Pre HH FF Stp HX FX (pre ++ [x])))) n' er (HH i) (X :: FF i ++ Fr))
    (hdone : ∀ xs i Fs, Pre xs i → Done xs Fs → Q .normal n' env (HH i) (Fs ++ (FF i ++ Fr)))
    (hstop : ∀ e pre j Fs, Stp e pre j → Stopd pre Fs → Q e n' env (HX j) (Fs ++ (FX j ++ Fr))) :
    Tri cx (.rangeFunc fo ps assign body) Q n env H F :=
  range_ruleP g hsv hfn hcall n' hn' Pre HH FF hFF Stp HX FX hFX Gi Ri Fr hGi hFr i0 h0 hent ins Done Stopd (fun l w f0 R J Jx h1 h2 h3 h4 _ h5 => hit l w f0 R J Jx h1 h2 h3 h4 h5) hround hdone hstop
end
#print axioms range_rule
end Go.Proofs.YtloeaiafphkjnaaGreatDoor.Sx

namespace Go.Proofs.YtloeaiafphkjnaaGreatDoor.Sx
open Go
def noF : Fact where
  own := false
  D := None_
  p := fun _ => True
  st := fun _ _ _ h => h
section
variable {cx : Cx} {β : Va} {n : Nat} {env : Env} {H : List Bk} {F : List Fact} {w w' : World} {dst : Option Tmp} {K : KT}
theorem Sat.nthMem (j : Nat) {f : Fact} (hj : nth F j = some f) : f ∈ F := List.mem_of_getElem? (by rw [← nth_eq]; exact hj)
theorem yield_ro {α : Type} {l : Nat} {J Jx : List α → Fact → Prop} {R : Fact} {ins : List α → α → Array Value → Fact → Prop} (hY : Yc cx.P l J Jx R ins) {A : Va → Array Value} {pre : List α} {x : α} {f X : Fact}
    (jf jR : Nat) (hf : nth F jf = some f) (hJ : J pre f) (hfo : f.own = true) (hR : nth F jR = some R) (hRo : R.own = false) (hne : jf ≠ jR) (hins : ∀ β, ins pre x (A β) X) (hXo : X.own = false)
    (hX : ∀ β w, Sat cx β n H F w → X.p w ∧ (∀ k, X.D k → k < w.heap.size) ∧ ∀ k, f.D k → ¬ X.D k)
    (ht : ∀ f', f'.own = true → J (pre ++ [x]) f' → put cx.N n env H (f' :: dropIx [jf] 0 F) dst (.c (.v (.bool true))) K)
    (hs : ∀ f', f'.own = true → Jx (pre ++ [x]) f' → put cx.N n env H (f' :: dropIx [jf] 0 F) dst (.c (.v (.bool false))) K) :
    ∀ β w, Sat cx β n H F w → Yld cx.P l (A β) w fun v w' => Ret cx β n env dst K v w' := by
  intro β w hsat
  obtain ⟨h1, h2, h3⟩ := hX β w hsat
  have hfm := Sat.nthMem jf hf
  have hRm := Sat.nthMem jR hR
  have hap := hsat.apart (i := jf) (j := jR) (by rw [← nth_eq]; exact hf) (by rw [← nth_eq]; exact hR) hne (.inl hfo)
  have hm : Mem w [f, R, X] := by
    refine ⟨fun g hg => ?_, fun g hg k hk => ?_, ?_⟩
    · simp only [List.mem_cons, List.not_mem_nil, or_false] at hg
      rcases hg with rfl | rfl | rfl
      · exact hsat.fact _ hfm
      · exact hsat.fact _ hRm
      · exact h1
    · simp only [List.mem_cons, List.not_mem_nil, or_false] at hg
      rcases hg with rfl | rfl | rfl
      · exact hsat.flt _ hfm k hk
      · exact hsat.flt _ hRm k hk
      · exact h2 k hk
    · refine List.pairwise_cons.2 ⟨fun g hg _ => ?_, List.pairwise_cons.2 ⟨fun g hg ho => ?_, List.pairwise_singleton _ _⟩⟩
      · simp only [List.mem_cons, List.not_mem_nil, or_false] at hg
        rcases hg with rfl | rfl
        · exact hap
        · exact h3
      · obtain rfl := List.mem_singleton.1 hg
        rw [hRo, hXo] at ho
        rcases ho with q | q <;> cases q
  obtain ⟨fn, tmps, as_, body, hrun, hround⟩ := hY pre x f w (A β) X hJ hm (hins β)
  refine ⟨fn, tmps, as_, body, hrun, hround.mono ?_⟩
  rintro e w' ⟨v, rfl, f', hc, hfo', hfp', hD, hv⟩
  rw [gv_not hXo] at hc hD
  have htk : takeIx F [jf] = [f] := by simp only [takeIx, hf]
  have hsw := hsat.swap (w' := w') [jf] (by rw [htk]; exact ⟨hfo, trivial⟩) (Fs := [f']) (by rw [htk]; exact hc) ⟨fun g hg => by obtain rfl := List.mem_singleton.1 hg; exact hfp', fun g hg k hk => by obtain rfl := List.mem_singleton.1 hg; exact (hD k hk).2, List.pairwise_singleton _ _⟩ (by
    intro g hg k hk
    obtain rfl := List.mem_singleton.1 hg
    rw [htk]
    exact (hD k hk).1)
  refine ⟨v, rfl, ?_⟩
  rcases hv with ⟨rfl, hJ'⟩ | ⟨rfl, hJ'⟩
  · exact Ret.mk _ _ hsw (ht f' hfo' hJ')
  · exact Ret.mk _ _ hsw (hs f' hfo' hJ')
theorem Mem.sat0 (h : Mem w F) (hW : cx.W0 = w := by rfl) (hS : ∀ f ∈ F, f.own = true → ∀ k, f.D k → cx.S k) (hbs : cx.bs = [] := by rfl)
    (hp : β.pins = [] := by rfl) (hm : β.marks = [] := by rfl) (hr : cx.rnd = none := by rfl) (hpn : cx.pn = [] := by rfl) : Sat cx β n [] F w :=
  h.sat hW hS ⟨by rw [hbs]; exact Nat.zero_le _, fun i hi => by rw [hbs] at hi; cases hi⟩ hp hm hr hpn
theorem ownIn {Gs Rs : List Fact} (hR : ∀ g ∈ Rs, g.own = false) : ∀ f ∈ Gs ++ Rs, f.own = true → ∀ k, f.D k → Un Gs k := fun f hf ho k hk => by
  rcases List.mem_append.1 hf with q | q
  · exact ⟨f, q, hk⟩
  · rw [hR f q] at ho; cases ho
end
def SL.re (id b : Nat) : SL → SL
  | .v x => .v x
  | .p i o => match Nat.beq i id with | true => .v (.pointer (some ⟨b, o, none⟩)) | false => .p i o
def SV.re (id b : Nat) : SV → SV
  | .c x => .c (x.re id b)
  | .agg xs => .agg (xs.map (SL.re id b))
  | .fn f u v => .fn f (u.map (SL.re id b)) (v.map (SL.re id b))
def envRe (id b : Nat) : Env → Env
  | [] => []
  | (t, s) :: r => (t, s.re id b) :: envRe id b r
def bksRe (id b : Nat) : List Bk → List Bk
  | [] => []
  | k :: r => match Nat.beq k.id id with | true => bksRe id b r | false => ⟨k.id, k.ty, k.cells.map (SL.re id b)⟩ :: bksRe id b r
def tyAt : List Bk → Nat → Option TypeId
  | [], _ => none
  | b :: r, i => match Nat.beq b.id i with | true => some b.ty | false => tyAt r i
theorem SL.re_val {id b : Nat} {β : Va} (h : β id = b) (x : SL) : (x.re id b).val β = x.val β := by
  cases x with
  | v x => rfl
  | p i o =>
    simp only [SL.re]
    cases hb : Nat.beq i id with
    | true => obtain rfl := Nat.eq_of_beq_eq_true hb; simp only [SL.val, h]
    | false => rfl
theorem SL.re_lt {id b n : Nat} {x : SL} (h : x.lt n) : (x.re id b).lt n := by
  cases x with
  | v x => trivial
  | p i o =>
    simp only [SL.re]
    cases hb : Nat.beq i id with
    | true => trivial
    | false => exact h
theorem SV.re_val {id b : Nat} {β : Va} (h : β id = b) (x : SV) : (x.re id b).val β = x.val β := by
  have key : ∀ l : List SL, (l.map (SL.re id b)).map (SL.val β) = l.map (SL.val β) := fun l => by
    rw [List.map_map]; exact List.map_congr_left fun x _ => SL.re_val h x
  cases x <;> simp only [SV.re, SV.val, SL.re_val h, key]
theorem SV.re_lt {id b n : Nat} {x : SV} (h : x.lt n) : (x.re id b).lt n := by
  have key : ∀ l : List SL, (∀ x ∈ l, x.lt n) → ∀ x ∈ l.map (SL.re id b), x.lt n := fun l hl x hx => by
    obtain ⟨y, hy, rfl⟩ := List.mem_map.1 hx
    exact SL.re_lt (hl y hy)
  cases x with
  | c x => exact SL.re_lt h
  | agg xs => exact key xs h
  | fn f u v => exact ⟨key u h.1, key v h.2⟩
theorem envRe_get {id b : Nat} : ∀ {env : Env} {t : Nat} {s : SV}, get (envRe id b env) t = some s → ∃ u, get env t = some u ∧ s = u.re id b
  | [], t, s, h => by cases h
  | (u, s') :: r, t, s, h => by
    simp only [envRe] at h
    by_cases hut : u = t
    · subst hut
      rw [get_same] at h
      exact ⟨s', get_same _ _ _, (Option.some.inj h).symm⟩
    · rw [get_other _ _ hut] at h
      obtain ⟨v, hv, e⟩ := envRe_get h
      exact ⟨v, by rw [get_other _ _ hut]; exact hv, e⟩
theorem bksRe_mem {id b : Nat} : ∀ {H : List Bk} {c : Bk}, c ∈ bksRe id b H → ∃ k ∈ H, k.id ≠ id ∧ c = ⟨k.id, k.ty, k.cells.map (SL.re id b)⟩
  | k :: r, c, h => by
    simp only [bksRe] at h
    cases hb : Nat.beq k.id id with
    | true =>
      rw [hb] at h
      obtain ⟨k', hk, e⟩ := bksRe_mem h
      exact ⟨k', List.mem_cons_of_mem _ hk, e⟩
    | false =>
      rw [hb] at h
      rcases List.mem_cons.1 h with rfl | h
      · exact ⟨k, List.mem_cons_self, fun q => (by rw [q, Nat.beq_refl] at hb; cases hb), rfl⟩
      · obtain ⟨k', hk, e⟩ := bksRe_mem h
        exact ⟨k', List.mem_cons_of_mem _ hk, e⟩
theorem bksRe_pw {id b : Nat} (R : Nat → Nat → Prop) : ∀ {H : List Bk}, H.Pairwise (fun b c => R b.id c.id) → (bksRe id b H).Pairwise (fun b c => R b.id c.id)
  | [], _ => List.Pairwise.nil
  | k :: r, h => by
    obtain ⟨h1, h2⟩ := List.pairwise_cons.1 h
    simp only [bksRe]
    cases hb : Nat.beq k.id id with
    | true => exact bksRe_pw R h2
    | false =>
      refine List.pairwise_cons.2 ⟨fun x hx => ?_, bksRe_pw R h2⟩
      obtain ⟨k', hk, _, rfl⟩ := bksRe_mem hx
      exact h1 k' hk
theorem tyAt_mem {H : List Bk} {i : Nat} {t : TypeId} {cs : List SL} (h : tyAt H i = some t) (h2 : cellsAt H i = some cs) : (⟨i, t, cs⟩ : Bk) ∈ H := by
  induction H with
  | nil => cases h
  | cons b r ih =>
    simp only [tyAt] at h
    simp only [cellsAt] at h2
    cases hb : Nat.beq b.id i with
    | true =>
      rw [hb] at h h2
      have := Nat.eq_of_beq_eq_true hb
      obtain rfl := Option.some.inj h
      obtain rfl := Option.some.inj h2
      subst this
      exact List.mem_cons_self
    | false =>
      rw [hb] at h h2
      exact List.mem_cons_of_mem _ (ih h h2)
theorem Sat.reify {cx : Cx} {β : Va} {n : Nat} {H : List Bk} {F : List Fact} {w : World} (h : Sat cx β n H F w) (id : Nat) {ty : TypeId} {cs : List SL} {vs : List Value} (h1 : tyAt H id = some ty) (h2 : cellsAt H id = some cs) (h3 : allV (cs.map (SL.re id (β id))) = some vs) :
    Sat cx β n (bksRe id (β id) H) (bkF (β id) ty vs :: F) w := by
  have hm := tyAt_mem h1 h2
  have hb := h.blk _ hm
  have hvs := allV_spec h3
  have hcv : cs.map (SL.val β) = vs := by
    have e1 : (cs.map (SL.re id (β id))).map (SL.val β) = cs.map (SL.val β) := by
      rw [List.map_map]; exact List.map_congr_left fun x _ => SL.re_val rfl x
    rw [← e1, hvs, List.map_map]
    have : (SL.val β ∘ SL.v) = (fun x : Value => x) := rfl
    rw [this, List.map_id']
  have hp : w.heap[β id]? = some (.cells vs.toArray ty (0, 0)) := by rw [← hcv]; exact hb
  have h4 : Sat cx β n (bksRe id (β id) H) F w := by
    refine ⟨h.chg, h.fix, fun b hb => ?_, fun b hb => ?_, bksRe_pw (fun x y => β x ≠ β y) h.inj, fun b hb => ?_, h.fact, h.flt, fun f hf b hb => ?_, h.fown, h.sepf, h.pin, h.mrk, h.rnd⟩
    all_goals obtain ⟨k, hk, _, rfl⟩ := bksRe_mem hb
    · have := h.blk k hk
      simp only
      rw [this, List.map_map, show SL.val β ∘ SL.re id (β id) = SL.val β from funext fun x => SL.re_val rfl x]
    · exact h.mine k hk
    · refine ⟨(h.ltb k hk).1, fun x hx => ?_⟩
      obtain ⟨y, hy, rfl⟩ := List.mem_map.1 hx
      exact SL.re_lt ((h.ltb k hk).2 y hy)
    · exact h.sepb f hf k hk
  refine h4.old (bkF (β id) ty vs) hp (fun k hk => ?_) (fun b hb q => ?_) (fun _ k hk => ?_) (fun g hg _ k hk q => ?_) (fun p hp q => ?_)
  · obtain rfl : k = β id := hk; exact h.lt hm
  · obtain ⟨k, hk, hne, rfl⟩ := bksRe_mem hb
    have hq : β k.id = β id := q
    obtain ⟨i, hi⟩ := List.getElem?_of_mem hk
    obtain ⟨j, hj⟩ := List.getElem?_of_mem hm
    obtain ⟨hil, rfl⟩ := List.getElem?_eq_some_iff.1 hi
    obtain ⟨hjl, hje⟩ := List.getElem?_eq_some_iff.1 hj
    have hpw := List.pairwise_iff_getElem.1 h.inj
    rcases Nat.lt_trichotomy i j with hlt | heq | hgt
    · exact hpw i j hil hjl hlt (by rw [hje]; exact hq)
    · subst heq; rw [hje] at hne; exact hne rfl
    · exact hpw j i hjl hil hgt (by rw [hje]; exact hq.symm)
  · obtain rfl : k = β id := hk; exact h.mine _ hm
  · obtain rfl : k = β id := hk; exact h.sepb g hg _ hm q
  · exact h.pinBk hp hm (Eq.symm q)
theorem reify_rule {cx : Cx} (g : Good cx) {c : Code} {Q : Exit → KT} {n : Nat} {env : Env} {H : List Bk} {F : List Fact} (id : Nat) {ty : TypeId} {cs : List SL} (vs : Nat → List Value) (h1 : tyAt H id = some ty) (h2 : cellsAt H id = some cs) (h3 : ∀ b, allV (cs.map (SL.re id b)) = some (vs b))
    (h : ∀ b, cwp cx c Q n (envRe id b env) (bksRe id b H) (bkF b ty (vs b) :: F)) : Tri cx c Q n env H F := by
  refine ⟨fun β a w hi => (cwp_sound g c Q n _ _ _ (h (β id))).run β a w ⟨fun t s ht => ?_, hi.size, hi.df, fun t s ht => ?_, hi.sat.reify id h1 h2 (h3 (β id))⟩⟩
  · obtain ⟨u, hu, rfl⟩ := envRe_get ht
    rw [SV.re_val rfl]; exact hi.ag t u hu
  · obtain ⟨u, hu, rfl⟩ := envRe_get ht
    exact SV.re_lt (hi.lte t u hu)
structure EntX {ι : Type} (cx : Cx) (n : Nat) (env : Env) (H : List Bk) (F : List Fact) (T : ι → Prop) (n' : Nat) (E : ι → Env) (HH : ι → List Bk) (FF : ι → List Fact) : Prop where
  run : ∀ β a w, Inv cx β n env H F a w → ∃ (i : ι) (β' : Va), T i ∧ β'.pins = β.pins ∧ β'.marks = β.marks ∧ Inv cx β' n' (E i) (HH i) (FF i) a w
section
variable {ι : Type} {cx : Cx} {n n' : Nat} {env : Env} {H : List Bk} {F : List Fact} {T : ι → Prop} {E : ι → Env} {HH : ι → List Bk} {FF : ι → List Fact}
theorem EntX.of (i : ι) (hi : T i) (h : Ent cx n env H F n' (E i) (HH i) (FF i)) : EntX cx n env H F T n' E HH FF :=
  ⟨fun β a w hv => by obtain ⟨β', h1, h2, h3⟩ := h.run β a w hv; exact ⟨i, β', hi, h1, h2, h3⟩⟩
theorem EntX.reify (id : Nat) {ty : TypeId} {cs : List SL} (vs : Nat → List Value) (h1 : tyAt H id = some ty) (h2 : cellsAt H id = some cs) (h3 : ∀ b, allV (cs.map (SL.re id b)) = some (vs b))
    (h : ∀ b, EntX cx n (envRe id b env) (bksRe id b H) (bkF b ty (vs b) :: F) T n' E HH FF) : EntX cx n env H F T n' E HH FF := by
  refine ⟨fun β a w hi => ?_⟩
  refine (h (β id)).run β a w ⟨fun t s ht => ?_, hi.size, hi.df, fun t s ht => ?_, hi.sat.reify id h1 h2 (h3 (β id))⟩
  · obtain ⟨u, hu, rfl⟩ := envRe_get ht
    rw [SV.re_val rfl]; exact hi.ag t u hu
  · obtain ⟨u, hu, rfl⟩ := envRe_get ht
    exact SV.re_lt (hi.lte t u hu)
end
def exitIs (id : Nat) : Exit → Bool
  | .exit i => Nat.beq i id
  | _ => false
def joinQ {κ : Type} (cx : Cx) (id : Nat) (X : κ → Prop) (n2 : Nat) (E2 : κ → Env) (HH2 : κ → List Bk) (FF2 : κ → List Fact) (Q : Exit → KT) : Exit → KT := fun e => match exitIs id e with
  | true => fun m env H F => EntX cx m env H F X n2 E2 HH2 FF2
  | false => Q e
theorem tri_exit {κ : Type} {cx : Cx} {n : Nat} {env : Env} {H : List Bk} {F : List Fact} {c : Code} {Q : Exit → KT} (id : Nat) (X : κ → Prop) (n2 : Nat) (E2 : κ → Env) (HH2 : κ → List Bk) (FF2 : κ → List Fact)
    (hx : ∀ j, X j → Q (.exit id) n2 (E2 j) (HH2 j) (FF2 j)) (h : Tri cx c (joinQ cx id X n2 E2 HH2 FF2 Q) n env H F) : Tri cx c Q n env H F := by
  refine ⟨fun β a w hv => wpIn_mono (h.run β a w hv) fun e a' w' hp => ?_⟩
  have plain : exitIs id e = false → After cx (joinQ cx id X n2 E2 HH2 FF2 Q e) a' w' → After cx (Q e) a' w' := by
    intro he hq
    unfold joinQ at hq
    rw [he] at hq
    exact hq
  cases e with
  | exit i =>
    cases hb : exitIs id (.exit i) with
    | false => exact plain hb hp
    | true =>
      obtain rfl : i = id := Nat.eq_of_beq_eq_true hb
      obtain ⟨β', n1, env1, H1, F1, hi, hq⟩ := hp
      unfold joinQ at hq
      rw [hb] at hq
      obtain ⟨j, β2, hj, _, _, hi2⟩ := hq.run β' a' w' hi
      exact ⟨β2, n2, E2 j, HH2 j, FF2 j, hi2, hx j hj⟩
  | normal => exact plain rfl hp
  | ret => exact plain rfl hp
  | goto l => exact plain rfl hp
  | panic c => exact hp
  | outgrown => exact hp
#print axioms tri_exit
#print axioms reify_rule
end Go.Proofs.YtloeaiafphkjnaaGreatDoor.Sx

namespace Go.Proofs.YtloeaiafphkjnaaGreatDoor.Sx
open Go
attribute [local irreducible] Calls
def oldF (W0 : World) : Fact where
  own := false
  D := fun k => k < W0.heap.size
  p := fun w => ∀ k, k < W0.heap.size → w.heap[k]? = W0.heap[k]?
  st := fun w w' hs h k hk => (hs k hk).trans (h k hk)
theorem Rd.old {W0 w : World} {size : Nat} {A : Option Addr} {n : Nat} {xs : List Value} (h : Rd size A n xs W0) (ho : (oldF W0).p w) : Rd size A n xs w := by
  have hl := rd_lt h
  refine ⟨h.1, fun hn => ?_⟩
  obtain ⟨ad, hA, hc⟩ := h.2 hn
  refine ⟨ad, hA, fun j u hu => ?_⟩
  rw [← hc j u hu]
  have hb : (ad.add j).block = ad.block := by unfold Addr.add; split <;> rfl
  refine World.cell?_of_block ?_
  rw [hb]
  have hj : j < xs.length := (List.getElem?_eq_some_iff.1 hu).1
  exact ho _ (hl _ ⟨by rw [← h.1]; omega, ad, hA, rfl⟩)
theorem old_sat {cx : Cx} {w : World} (hW : cx.W0 = w := by rfl) (hbs : cx.bs = [] := by rfl) (hr : cx.rnd = none := by rfl) (hpn : cx.pn = [] := by rfl) : Sat cx Va.z 0 [] [oldF w] w :=
  (Sat.start hW hbs rfl rfl hr hpn).old (oldF w) (fun _ _ => rfl) (fun _ h => h) (fun _ h => by cases h) (fun q => by cases q) (fun _ h => by cases h)
theorem con_row {P : Program} {k : FuncId} {args : Array Value} {w : World} {e : Nat} {l : List UInt8} (h : Calls P k args w fun en w' => ∃ v, en = .returned v ∧ ∃ A c, v = .slice A l.length c ∧ Chg None_ w w' ∧ NewRow w w' A l c e) :
    Con P k args w [] fun v Fs => ∃ A c, v = .slice A l.length c ∧ l.length ≤ c ∧ c ≤ maxLen ∧ Fs = [browF e A l c] := by
  refine Calls.mono h ?_
  rintro en w' ⟨v, rfl, A, c, rfl, hc, hn⟩
  refine ⟨_, rfl, [browF e A l c], ⟨A, c, rfl, hn.1, hn.2.1, rfl⟩, by rw [Un.nil]; exact hc, ⟨fun g hg => ?_, fun g hg k hk => ?_, List.pairwise_singleton _ _⟩, ⟨rfl, trivial⟩, fun g hg k hk => ?_⟩
  · obtain rfl := List.mem_singleton.1 hg; exact hn.2.2.1
  · obtain rfl := List.mem_singleton.1 hg; exact (hn.lt k hk).2
  · obtain rfl := List.mem_singleton.1 hg; exact .inr (hn.lt k hk).1
theorem pu_of {P : Program} {k : FuncId} {args : Array Value} {w : World} {v : Value} (h : Calls P k args w fun en w' => ∃ u, en = .returned u ∧ u = v ∧ Chg None_ w w') : Pu P k args w v := by
  refine Calls.mono h ?_
  rintro en w' ⟨u, rfl, rfl, hc⟩
  exact ⟨_, rfl, [], ⟨rfl, rfl⟩, by rw [Un.nil]; exact hc, ⟨fun _ q => (by cases q), fun _ q => (by cases q), List.Pairwise.nil⟩, trivial, fun _ q => (by cases q)⟩
end Go.Proofs.YtloeaiafphkjnaaGreatDoor.Sx

namespace Go.Proofs.YtloeaiafphkjnaaGreatDoor.Sx
open Go
section
variable {cx : Cx} {n : Nat} {env : Env} {H : List Bk} {F : List Fact}
theorem takeAt_from {α : Type} : ∀ (k o : Nat) (l : List α), o + k ≤ l.length → takeAt l o k = some ((l.drop o).take k)
  | 0, o, l, _ => by simp [takeAt]
  | k + 1, o, l, h => by
    have ho : o < l.length := by omega
    rw [takeAt, nth_eq, List.getElem?_eq_getElem ho]
    simp only [takeAt_from k (o + 1) l (by omega)]
    rw [List.drop_eq_getElem_cons ho, List.take_succ_cons]
theorem takeAt_all {α : Type} {l : List α} {k : Nat} (h : l.length = k) : takeAt l 0 k = some l := by
  rw [takeAt_from k 0 l (by omega), List.drop_zero, ← h, List.take_length]
theorem putAll_all {α : Type} : ∀ (ys l : List α) (o : Nat), o + ys.length ≤ l.length → putAll l o ys = l.take o ++ ys ++ l.drop (o + ys.length)
  | [], l, o, h => by simp [putAll]
  | y :: ys, l, o, h => by
    simp only [List.length_cons] at h
    rw [putAll, putAll_all ys _ _ (by rw [putAt_eq, List.length_set]; omega), putAt_eq]
    rw [List.take_set, List.drop_set_of_lt (by omega)]
    rw [List.take_succ_eq_append_getElem (by omega), List.set_append_right _ _ (by simp; omega)]
    have e1 : o - (List.take o l).length = 0 := by simp; omega
    rw [e1, List.set_cons_zero, List.length_cons, show o + 1 + ys.length = o + (ys.length + 1) by omega]
    simp
theorem putAll_full {α : Type} {ys l : List α} (h : ys.length = l.length) : putAll l 0 ys = ys := by
  rw [putAll_all _ _ _ (by omega), Nat.zero_add, h, List.drop_length]; simp
theorem allOne_of {xs : List SL} (h : ∀ x ∈ xs, x.one = true) : allOne xs = true := by
  induction xs with
  | nil => rfl
  | cons x r ih =>
    simp only [allOne]
    rw [h x List.mem_cons_self]
    exact ih (fun y hy => h y (List.mem_cons_of_mem _ hy))
theorem m_true {b : Bool} {X : Prop} : b = true → X → match b with | true => X | false => False := fun h hk => by subst h; exact hk
end
end Go.Proofs.YtloeaiafphkjnaaGreatDoor.Sx

namespace Go.Proofs.YtloeaiafphkjnaaGreatDoor.Sx
open Go
theorem Rd.cell1 {w : World} {ad : Addr} {n : Nat} {xs : List Value} (h : Rd 1 (some ad) n xs w) {k : Nat} {u : Value} (hu : xs[k]? = some u) : w.cell? (ad.add (k * 1)) = some u := by
  have hk : k < xs.length := (List.getElem?_eq_some_iff.1 hu).1
  obtain ⟨ad', q, hc⟩ := h.2 (by have := h.1; omega)
  obtain rfl := Option.some.inj q
  rw [Nat.mul_one]
  exact hc k u hu
theorem at_lt {α : Type} {l : List α} {k : Nat} (h : k < l.length) : ∃ x, l[k]? = some x ∧ x ∈ l := ⟨l[k], List.getElem?_eq_getElem h, List.getElem_mem h⟩
section
variable {cx : Cx} {β : Va} {n : Nat} {env : Env} {H : List Bk} {F : List Fact} {w : World}
theorem Rd.take {A : Option Addr} {m : Nat} {ys : List Value} (h : Rd 1 A m ys w) {k : Nat} (hk : k ≤ m) : Rd 1 A k (ys.take k) w := by
  refine ⟨?_, fun hp => ?_⟩
  · rw [List.length_take, h.1]; omega
  · obtain ⟨ad, q, hc⟩ := h.2 (by omega)
    refine ⟨ad, q, fun j u hu => hc j u ?_⟩
    rw [List.getElem?_take] at hu
    split at hu
    · exact hu
    · cases hu
theorem Sat.bkSet (h : Sat cx β n H F w) (j : Nat) {b ty o : Nat} {cs us : List Value} (hj : nth F j = some (bkF b ty cs)) (hl : o + us.length ≤ cs.length) (h1 : ∀ u ∈ us, u.oneCell' = true) :
    ∃ w', (storeCells ((⟨b, 0, none⟩ : Addr).add o) us 0).run cx.P w = .ok () w' ∧ Sat cx β n H (putAt F j (bkF b ty (putAll cs o us))) w' := by
  have hb : w.heap[b]? = some (.cells cs.toArray ty (0, 0)) := h.get j hj
  obtain ⟨w', e1, e2, e3, e4⟩ := run_storeCells (P := cx.P) b ty us o 0 w cs hb h1 (by omega)
  refine ⟨w', by rw [add_none, Nat.zero_add]; exact e1, h.upd hj rfl (Chg.mono e3 (fun i _ q => by subst q; rfl)) ?_ (fun q hq => .inl hq)⟩
  show w'.heap[b]? = _
  rw [e2, Nat.add_zero]
end
end Go.Proofs.YtloeaiafphkjnaaGreatDoor.Sx

namespace Go.Proofs.YtloeaiafphkjnaaGreatDoor.Sx
open Go
noncomputable def ti3 : TI := { desc := .int .i64, agg := false, size := 1, bytes := 8, zero := [.int .i64 0], fields := [], ftys := [] }
theorem ok3 : TiOk Tryz.prog 3 ti3 := ⟨by kernel_rfl, by kernel_rfl, rfl, by kernel_rfl, by kernel_rfl, by kernel_rfl⟩
noncomputable def ti4 : TI := { desc := .bool, agg := false, size := 1, bytes := 1, zero := [.bool false], fields := [], ftys := [] }
theorem ok4 : TiOk Tryz.prog 4 ti4 := ⟨by kernel_rfl, by kernel_rfl, rfl, by kernel_rfl, by kernel_rfl, by kernel_rfl⟩
noncomputable def ti5 : TI := { desc := .int .u8, agg := false, size := 1, bytes := 1, zero := [.int .u8 0], fields := [], ftys := [] }
theorem ok5 : TiOk Tryz.prog 5 ti5 := ⟨by kernel_rfl, by kernel_rfl, rfl, by kernel_rfl, by kernel_rfl, by kernel_rfl⟩
noncomputable def ti9 : TI := { desc := .string, agg := false, size := 1, bytes := 16, zero := [.string ByteArray.empty], fields := [], ftys := [] }
theorem ok9 : TiOk Tryz.prog 9 ti9 := ⟨by kernel_rfl, by kernel_rfl, rfl, by kernel_rfl, by kernel_rfl, by kernel_rfl⟩
noncomputable def ti25 : TI := { desc := .pointer 115, agg := false, size := 1, bytes := 8, zero := [.pointer none], fields := [], ftys := [] }
theorem ok25 : TiOk Tryz.prog 25 ti25 := ⟨by kernel_rfl, by kernel_rfl, rfl, by kernel_rfl, by kernel_rfl, by kernel_rfl⟩
noncomputable def ti26 : TI := { desc := .int .i64, agg := false, size := 1, bytes := 8, zero := [.int .i64 0], fields := [], ftys := [] }
theorem ok26 : TiOk Tryz.prog 26 ti26 := ⟨by kernel_rfl, by kernel_rfl, rfl, by kernel_rfl, by kernel_rfl, by kernel_rfl⟩
noncomputable def ti32 : TI := { desc := .slice 9, agg := false, size := 1, bytes := 24, zero := [.slice none 0 0], fields := [], ftys := [] }
theorem ok32 : TiOk Tryz.prog 32 ti32 := ⟨by kernel_rfl, by kernel_rfl, rfl, by kernel_rfl, by kernel_rfl, by kernel_rfl⟩
noncomputable def ti43 : TI := { desc := .slice 5, agg := false, size := 1, bytes := 24, zero := [.slice none 0 0], fields := [], ftys := [] }
theorem ok43 : TiOk Tryz.prog 43 ti43 := ⟨by kernel_rfl, by kernel_rfl, rfl, by kernel_rfl, by kernel_rfl, by kernel_rfl⟩
noncomputable def ti50 : TI := { desc := .int .u64, agg := false, size := 1, bytes := 8, zero := [.int .u64 0], fields := [], ftys := [] }
theorem ok50 : TiOk Tryz.prog 50 ti50 := ⟨by kernel_rfl, by kernel_rfl, rfl, by kernel_rfl, by kernel_rfl, by kernel_rfl⟩
noncomputable def ti67 : TI := { desc := .pointer 69, agg := false, size := 1, bytes := 8, zero := [.pointer none], fields := [], ftys := [] }
theorem ok67 : TiOk Tryz.prog 67 ti67 := ⟨by kernel_rfl, by kernel_rfl, rfl, by kernel_rfl, by kernel_rfl, by kernel_rfl⟩
noncomputable def ti69 : TI := { desc := .struct, agg := true, size := 2, bytes := 32, zero := [.pointer none, .slice none 0 0], fields := [(0, 1), (1, 1)], ftys := [67, 43] }
theorem ok69 : TiOk Tryz.prog 69 ti69 := ⟨by kernel_rfl, by kernel_rfl, rfl, by kernel_rfl, by kernel_rfl, by kernel_rfl⟩
noncomputable def ti71 : TI := { desc := .other, agg := false, size := 1, bytes := 8, zero := [.nilFunc], fields := [], ftys := [] }
theorem ok71 : TiOk Tryz.prog 71 ti71 := ⟨by kernel_rfl, by kernel_rfl, rfl, by kernel_rfl, by kernel_rfl, by kernel_rfl⟩
noncomputable def ti74 : TI := { desc := .other, agg := false, size := 1, bytes := 16, zero := [.nilIface], fields := [], ftys := [] }
theorem ok74 : TiOk Tryz.prog 74 ti74 := ⟨by kernel_rfl, by kernel_rfl, rfl, by kernel_rfl, by kernel_rfl, by kernel_rfl⟩
noncomputable def ti98 : TI := { desc := .struct, agg := true, size := 5, bytes := 104, zero := [.slice none 0 0, .int .i64 0, .slice none 0 0, .slice none 0 0, .slice none 0 0], fields := [(0, 1), (1, 1), (2, 1), (3, 1), (4, 1)], ftys := [43, 3, 43, 43, 43] }
theorem ok98 : TiOk Tryz.prog 98 ti98 := ⟨by kernel_rfl, by kernel_rfl, rfl, by kernel_rfl, by kernel_rfl, by kernel_rfl⟩
noncomputable def ti100 : TI := { desc := .struct, agg := true, size := 10, bytes := 176, zero := [.string ByteArray.empty, .string ByteArray.empty, .slice none 0 0, .int .i64 0, .slice none 0 0, .slice none 0 0, .slice none 0 0, .int .u64 0, .slice none 0 0, .bool false], fields := [(0, 1), (1, 1), (2, 5), (7, 1), (8, 1), (9, 1)], ftys := [9, 9, 98, 50, 32, 4] }
theorem ok100 : TiOk Tryz.prog 100 ti100 := ⟨by kernel_rfl, by kernel_rfl, rfl, by kernel_rfl, by kernel_rfl, by kernel_rfl⟩
noncomputable def ti113 : TI := { desc := .map 9 144, agg := false, size := 1, bytes := 8, zero := [.map none], fields := [], ftys := [] }
theorem ok113 : TiOk Tryz.prog 113 ti113 := ⟨by kernel_rfl, by kernel_rfl, rfl, by kernel_rfl, by kernel_rfl, by kernel_rfl⟩
noncomputable def ti115 : TI := { desc := .struct, agg := true, size := 3, bytes := 24, zero := [.map none, .int .u64 0, .int .u64 0], fields := [(0, 1), (1, 1), (2, 1)], ftys := [113, 50, 50] }
theorem ok115 : TiOk Tryz.prog 115 ti115 := ⟨by kernel_rfl, by kernel_rfl, rfl, by kernel_rfl, by kernel_rfl, by kernel_rfl⟩
noncomputable def ti116 : TI := { desc := .int .u32, agg := false, size := 1, bytes := 4, zero := [.int .u32 0], fields := [], ftys := [] }
theorem ok116 : TiOk Tryz.prog 116 ti116 := ⟨by kernel_rfl, by kernel_rfl, rfl, by kernel_rfl, by kernel_rfl, by kernel_rfl⟩
noncomputable def ti117 : TI := { desc := .array 8 116, agg := true, size := 8, bytes := 32, zero := [.int .u32 0, .int .u32 0, .int .u32 0, .int .u32 0, .int .u32 0, .int .u32 0, .int .u32 0, .int .u32 0], fields := [], ftys := [] }
theorem ok117 : TiOk Tryz.prog 117 ti117 := ⟨by kernel_rfl, by kernel_rfl, rfl, by kernel_rfl, by kernel_rfl, by kernel_rfl⟩
noncomputable def ti118 : TI := { desc := .array 8 116, agg := true, size := 8, bytes := 32, zero := [.int .u32 0, .int .u32 0, .int .u32 0, .int .u32 0, .int .u32 0, .int .u32 0, .int .u32 0, .int .u32 0], fields := [], ftys := [] }
theorem ok118 : TiOk Tryz.prog 118 ti118 := ⟨by kernel_rfl, by kernel_rfl, rfl, by kernel_rfl, by kernel_rfl, by kernel_rfl⟩
noncomputable def ti127 : TI := { desc := .int .u64, agg := false, size := 1, bytes := 8, zero := [.int .u64 0], fields := [], ftys := [] }
theorem ok127 : TiOk Tryz.prog 127 ti127 := ⟨by kernel_rfl, by kernel_rfl, rfl, by kernel_rfl, by kernel_rfl, by kernel_rfl⟩
noncomputable def ti135 : TI := { desc := .other, agg := false, size := 1, bytes := 8, zero := [.nilFunc], fields := [], ftys := [] }
theorem ok135 : TiOk Tryz.prog 135 ti135 := ⟨by kernel_rfl, by kernel_rfl, rfl, by kernel_rfl, by kernel_rfl, by kernel_rfl⟩
noncomputable def ti142 : TI := { desc := .pointer 5, agg := false, size := 1, bytes := 8, zero := [.pointer none], fields := [], ftys := [] }
theorem ok142 : TiOk Tryz.prog 142 ti142 := ⟨by kernel_rfl, by kernel_rfl, rfl, by kernel_rfl, by kernel_rfl, by kernel_rfl⟩
noncomputable def ti144 : TI := { desc := .map 9 146, agg := false, size := 1, bytes := 8, zero := [.map none], fields := [], ftys := [] }
theorem ok144 : TiOk Tryz.prog 144 ti144 := ⟨by kernel_rfl, by kernel_rfl, rfl, by kernel_rfl, by kernel_rfl, by kernel_rfl⟩
noncomputable def ti146 : TI := { desc := .pointer 100, agg := false, size := 1, bytes := 8, zero := [.pointer none], fields := [], ftys := [] }
theorem ok146 : TiOk Tryz.prog 146 ti146 := ⟨by kernel_rfl, by kernel_rfl, rfl, by kernel_rfl, by kernel_rfl, by kernel_rfl⟩
noncomputable def ti169 : TI := { desc := .slice 43, agg := false, size := 1, bytes := 24, zero := [.slice none 0 0], fields := [], ftys := [] }
theorem ok169 : TiOk Tryz.prog 169 ti169 := ⟨by kernel_rfl, by kernel_rfl, rfl, by kernel_rfl, by kernel_rfl, by kernel_rfl⟩
noncomputable def ti170 : TI := { desc := .array 8 116, agg := true, size := 8, bytes := 32, zero := [.int .u32 0, .int .u32 0, .int .u32 0, .int .u32 0, .int .u32 0, .int .u32 0, .int .u32 0, .int .u32 0], fields := [], ftys := [] }
theorem ok170 : TiOk Tryz.prog 170 ti170 := ⟨by kernel_rfl, by kernel_rfl, rfl, by kernel_rfl, by kernel_rfl, by kernel_rfl⟩
noncomputable def ti212 : TI := { desc := .array 64 116, agg := true, size := 64, bytes := 256, zero := List.replicate 64 (.int .u32 0), fields := [], ftys := [] }
theorem ok212 : TiOk Tryz.prog 212 ti212 := ⟨by kernel_rfl, by kernel_rfl, rfl, by kernel_rfl, by kernel_rfl, by kernel_rfl⟩
noncomputable def ti244 : TI := { desc := .array 24 5, agg := true, size := 24, bytes := 24, zero := [.int .u8 0, .int .u8 0, .int .u8 0, .int .u8 0, .int .u8 0, .int .u8 0, .int .u8 0, .int .u8 0, .int .u8 0, .int .u8 0, .int .u8 0, .int .u8 0, .int .u8 0, .int .u8 0, .int .u8 0, .int .u8 0, .int .u8 0, .int .u8 0, .int .u8 0, .int .u8 0, .int .u8 0, .int .u8 0, .int .u8 0, .int .u8 0], fields := [], ftys := [] }
theorem ok244 : TiOk Tryz.prog 244 ti244 := ⟨by kernel_rfl, by kernel_rfl, rfl, by kernel_rfl, by kernel_rfl, by kernel_rfl⟩
abbrev ty_int : TypeId := 3
abbrev ty_uint8 : TypeId := 5
abbrev ty_string : TypeId := 9
abbrev ty_ptr_cred_Store : TypeId := 25
abbrev ty_api_Errno : TypeId := 26
abbrev ty_sl_uint8 : TypeId := 43
abbrev ty_strings_Builder : TypeId := 69
abbrev ty_cred_Cred : TypeId := 100
abbrev ty_cred_Store : TypeId := 115
abbrev ty_ptr_uint8 : TypeId := 142
theorem mixed : Tryz.prog.follows .mixedOrders = true := by kernel_rfl
noncomputable def cx_ostiarylaw15_RollLines (W0 : World) (S : Nat → Prop) (bs : List Nat := []) : Cx := ⟨Tryz.prog, W0, S, 53, [(3, ti3), (4, ti4), (5, ti5), (9, ti9), (32, ti32)], [7, 8, 13, 14], bs, none, []⟩
abbrev n_ostiarylaw15_RollLines : FuncId := 4
theorem b_ostiarylaw15_RollLines : Tryz.prog.funcs[n_ostiarylaw15_RollLines]? = some Tryz.f4 := Tryz.func4
theorem good_ostiarylaw15_RollLines (W0 : World) (S : Nat → Prop) (bs : List Nat := []) : Good (cx_ostiarylaw15_RollLines W0 S bs) := ⟨fmc ⟨ok3, fmc ⟨ok4, fmc ⟨ok5, fmc ⟨ok9, fmc ⟨ok32, (fun _ h => by cases h)⟩⟩⟩⟩⟩, fmc ⟨by kernel_rfl, fmc ⟨by kernel_rfl, fmc ⟨by kernel_rfl, fmc ⟨by kernel_rfl, (fun _ h => by cases h)⟩⟩⟩⟩, mixed⟩
noncomputable def cx_ostiarylaw15_awake (W0 : World) (S : Nat → Prop) (bs : List Nat := []) : Cx := ⟨Tryz.prog, W0, S, 30, [(9, ti9), (25, ti25), (26, ti26)], [9, 10, 12, 20], bs, none, []⟩
abbrev n_ostiarylaw15_awake : FuncId := 7
theorem b_ostiarylaw15_awake : Tryz.prog.funcs[n_ostiarylaw15_awake]? = some Tryz.f7 := Tryz.func7
theorem good_ostiarylaw15_awake (W0 : World) (S : Nat → Prop) (bs : List Nat := []) : Good (cx_ostiarylaw15_awake W0 S bs) := ⟨fmc ⟨ok9, fmc ⟨ok25, fmc ⟨ok26, (fun _ h => by cases h)⟩⟩⟩, fmc ⟨by kernel_rfl, fmc ⟨by kernel_rfl, fmc ⟨by kernel_rfl, fmc ⟨by kernel_rfl, (fun _ h => by cases h)⟩⟩⟩⟩, mixed⟩
noncomputable def cx_ostiaryref01_CutText (W0 : World) (S : Nat → Prop) (bs : List Nat := []) : Cx := ⟨Tryz.prog, W0, S, 11, [(3, ti3), (9, ti9)], [], bs, none, []⟩
abbrev n_ostiaryref01_CutText : FuncId := 8
theorem b_ostiaryref01_CutText : Tryz.prog.funcs[n_ostiaryref01_CutText]? = some Tryz.f8 := Tryz.func8
theorem good_ostiaryref01_CutText (W0 : World) (S : Nat → Prop) (bs : List Nat := []) : Good (cx_ostiaryref01_CutText W0 S bs) := ⟨fmc ⟨ok3, fmc ⟨ok9, (fun _ h => by cases h)⟩⟩, (fun _ h => by cases h), mixed⟩
noncomputable def cx_ostiaryref15_Sealed (W0 : World) (S : Nat → Prop) (bs : List Nat := []) : Cx := ⟨Tryz.prog, W0, S, 11, [(5, ti5), (9, ti9), (43, ti43)], [21, 22], bs, none, []⟩
abbrev n_ostiaryref15_Sealed : FuncId := 9
theorem b_ostiaryref15_Sealed : Tryz.prog.funcs[n_ostiaryref15_Sealed]? = some Tryz.f9 := Tryz.func9
theorem good_ostiaryref15_Sealed (W0 : World) (S : Nat → Prop) (bs : List Nat := []) : Good (cx_ostiaryref15_Sealed W0 S bs) := ⟨fmc ⟨ok5, fmc ⟨ok9, fmc ⟨ok43, (fun _ h => by cases h)⟩⟩⟩, fmc ⟨by kernel_rfl, fmc ⟨by kernel_rfl, (fun _ h => by cases h)⟩⟩, mixed⟩
noncomputable def cx_roll_Load (W0 : World) (S : Nat → Prop) (bs : List Nat := []) : Cx := ⟨Tryz.prog, W0, S, 80, [(3, ti3), (9, ti9), (25, ti25), (26, ti26)], [12, 20, 23, 24, 25, 26, 27, 28], bs, none, []⟩
abbrev n_roll_Load : FuncId := 10
theorem b_roll_Load : Tryz.prog.funcs[n_roll_Load]? = some Tryz.f10 := Tryz.func10
def p_roll_Load_6 : Plan := .take 0 (.take 1 (.take 2 (.take 3 (.take 4 (.take 5 (.take 6 (.take 7 (.take 8 (.take 9 (.take 10 (.take 11 (.take 12 (.take 13 (.done))))))))))))))
theorem good_roll_Load (W0 : World) (S : Nat → Prop) (bs : List Nat := []) : Good (cx_roll_Load W0 S bs) := ⟨fmc ⟨ok3, fmc ⟨ok9, fmc ⟨ok25, fmc ⟨ok26, (fun _ h => by cases h)⟩⟩⟩⟩, fmc ⟨by kernel_rfl, fmc ⟨by kernel_rfl, fmc ⟨by kernel_rfl, fmc ⟨by kernel_rfl, fmc ⟨by kernel_rfl, fmc ⟨by kernel_rfl, fmc ⟨by kernel_rfl, fmc ⟨by kernel_rfl, (fun _ h => by cases h)⟩⟩⟩⟩⟩⟩⟩⟩, mixed⟩
noncomputable def cx_roll_Dump (W0 : World) (S : Nat → Prop) (bs : List Nat := []) : Cx := ⟨Tryz.prog, W0, S, 17, [(5, ti5), (9, ti9), (25, ti25), (43, ti43), (67, ti67), (69, ti69)], [23, 31, 32, 33], bs, none, []⟩
abbrev n_roll_Dump : FuncId := 12
theorem b_roll_Dump : Tryz.prog.funcs[n_roll_Dump]? = some Tryz.f12 := Tryz.func12
theorem good_roll_Dump (W0 : World) (S : Nat → Prop) (bs : List Nat := []) : Good (cx_roll_Dump W0 S bs) := ⟨fmc ⟨ok5, fmc ⟨ok9, fmc ⟨ok25, fmc ⟨ok43, fmc ⟨ok67, fmc ⟨ok69, (fun _ h => by cases h)⟩⟩⟩⟩⟩⟩, fmc ⟨by kernel_rfl, fmc ⟨by kernel_rfl, fmc ⟨by kernel_rfl, fmc ⟨by kernel_rfl, (fun _ h => by cases h)⟩⟩⟩⟩, mixed⟩
noncomputable def cx_ostiaryref15_Lines (W0 : World) (S : Nat → Prop) (bs : List Nat := []) : Cx := ⟨Tryz.prog, W0, S, 19, [(3, ti3), (5, ti5), (9, ti9), (32, ti32)], [34], bs, none, []⟩
abbrev n_ostiaryref15_Lines : FuncId := 13
theorem b_ostiaryref15_Lines : Tryz.prog.funcs[n_ostiaryref15_Lines]? = some Tryz.f13 := Tryz.func13
theorem good_ostiaryref15_Lines (W0 : World) (S : Nat → Prop) (bs : List Nat := []) : Good (cx_ostiaryref15_Lines W0 S bs) := ⟨fmc ⟨ok3, fmc ⟨ok5, fmc ⟨ok9, fmc ⟨ok32, (fun _ h => by cases h)⟩⟩⟩⟩, fmc ⟨by kernel_rfl, (fun _ h => by cases h)⟩, mixed⟩
noncomputable def cx_roll_Lines (W0 : World) (S : Nat → Prop) (bs : List Nat := []) : Cx := ⟨Tryz.prog, W0, S, 4, [(9, ti9)], [35], bs, none, []⟩
abbrev n_roll_Lines : FuncId := 14
theorem b_roll_Lines : Tryz.prog.funcs[n_roll_Lines]? = some Tryz.f14 := Tryz.func14
theorem good_roll_Lines (W0 : World) (S : Nat → Prop) (bs : List Nat := []) : Good (cx_roll_Lines W0 S bs) := ⟨fmc ⟨ok9, (fun _ h => by cases h)⟩, fmc ⟨by kernel_rfl, (fun _ h => by cases h)⟩, mixed⟩
noncomputable def cx_cred_New (W0 : World) (S : Nat → Prop) (bs : List Nat := []) : Cx := ⟨Tryz.prog, W0, S, 4, [(9, ti9), (50, ti50), (113, ti113), (115, ti115), (144, ti144), (146, ti146)], [], bs, none, []⟩
abbrev n_cred_New : FuncId := 20
theorem b_cred_New : Tryz.prog.funcs[n_cred_New]? = some Tryz.f20 := Tryz.func20
theorem good_cred_New (W0 : World) (S : Nat → Prop) (bs : List Nat := []) : Good (cx_cred_New W0 S bs) := ⟨fmc ⟨ok9, fmc ⟨ok50, fmc ⟨ok113, fmc ⟨ok115, fmc ⟨ok144, fmc ⟨ok146, (fun _ h => by cases h)⟩⟩⟩⟩⟩⟩, (fun _ h => by cases h), mixed⟩
noncomputable def cx_ostiaryref01_Hex (W0 : World) (S : Nat → Prop) (bs : List Nat := []) : Cx := ⟨Tryz.prog, W0, S, 29, [(3, ti3), (5, ti5), (9, ti9), (43, ti43)], [], bs, none, []⟩
abbrev n_ostiaryref01_Hex : FuncId := 21
theorem b_ostiaryref01_Hex : Tryz.prog.funcs[n_ostiaryref01_Hex]? = some Tryz.f21 := Tryz.func21
def p_ostiaryref01_Hex_5 : Plan := .take 0 (.take 1 (.take 2 (.take 3 (.take 4 (.take 5 (.take 6 (.take 7 (.take 8 (.take 9 (.take 10 (.take 11 (.take 12 (.take 13 (.take 14 (.take 15 (.done))))))))))))))))
theorem good_ostiaryref01_Hex (W0 : World) (S : Nat → Prop) (bs : List Nat := []) : Good (cx_ostiaryref01_Hex W0 S bs) := ⟨fmc ⟨ok3, fmc ⟨ok5, fmc ⟨ok9, fmc ⟨ok43, (fun _ h => by cases h)⟩⟩⟩⟩, (fun _ h => by cases h), mixed⟩
noncomputable def cx_ostiaryref01_Sum (W0 : World) (S : Nat → Prop) (bs : List Nat := []) : Cx := ⟨Tryz.prog, W0, S, 20, [(3, ti3), (5, ti5), (43, ti43), (50, ti50), (116, ti116), (118, ti118)], [59, 60, 61, 62], bs, none, []⟩
abbrev n_ostiaryref01_Sum : FuncId := 22
theorem b_ostiaryref01_Sum : Tryz.prog.funcs[n_ostiaryref01_Sum]? = some Tryz.f22 := Tryz.func22
theorem good_ostiaryref01_Sum (W0 : World) (S : Nat → Prop) (bs : List Nat := []) : Good (cx_ostiaryref01_Sum W0 S bs) := ⟨fmc ⟨ok3, fmc ⟨ok5, fmc ⟨ok43, fmc ⟨ok50, fmc ⟨ok116, fmc ⟨ok118, (fun _ h => by cases h)⟩⟩⟩⟩⟩⟩, fmc ⟨by kernel_rfl, fmc ⟨by kernel_rfl, fmc ⟨by kernel_rfl, fmc ⟨by kernel_rfl, (fun _ h => by cases h)⟩⟩⟩⟩, mixed⟩
noncomputable def cx_roll_sum (W0 : World) (S : Nat → Prop) (bs : List Nat := []) : Cx := ⟨Tryz.prog, W0, S, 10, [(5, ti5), (9, ti9), (43, ti43), (169, ti169)], [63, 64], bs, none, []⟩
abbrev n_roll_sum : FuncId := 23
theorem b_roll_sum : Tryz.prog.funcs[n_roll_sum]? = some Tryz.f23 := Tryz.func23
theorem good_roll_sum (W0 : World) (S : Nat → Prop) (bs : List Nat := []) : Good (cx_roll_sum W0 S bs) := ⟨fmc ⟨ok5, fmc ⟨ok9, fmc ⟨ok43, fmc ⟨ok169, (fun _ h => by cases h)⟩⟩⟩⟩, fmc ⟨by kernel_rfl, fmc ⟨by kernel_rfl, (fun _ h => by cases h)⟩⟩, mixed⟩
abbrev n_strings_CutPrefix : FuncId := 24
noncomputable def cx_b64_Unhex (W0 : World) (S : Nat → Prop) (bs : List Nat := []) : Cx := ⟨Tryz.prog, W0, S, 39, [(3, ti3), (5, ti5), (9, ti9), (26, ti26), (43, ti43)], [66, 67], bs, none, []⟩
abbrev n_b64_Unhex : FuncId := 25
theorem b_b64_Unhex : Tryz.prog.funcs[n_b64_Unhex]? = some Tryz.f25 := Tryz.func25
theorem good_b64_Unhex (W0 : World) (S : Nat → Prop) (bs : List Nat := []) : Good (cx_b64_Unhex W0 S bs) := ⟨fmc ⟨ok3, fmc ⟨ok5, fmc ⟨ok9, fmc ⟨ok26, fmc ⟨ok43, (fun _ h => by cases h)⟩⟩⟩⟩⟩, fmc ⟨by kernel_rfl, fmc ⟨by kernel_rfl, (fun _ h => by cases h)⟩⟩, mixed⟩
abbrev n_strings_TrimSuffix : FuncId := 26
abbrev n_strings_HasSuffix : FuncId := 27
noncomputable def cx_roll_fill (W0 : World) (S : Nat → Prop) (bs : List Nat := []) : Cx := ⟨Tryz.prog, W0, S, 72, [(3, ti3), (4, ti4), (5, ti5), (9, ti9), (25, ti25), (26, ti26), (32, ti32), (43, ti43), (50, ti50), (98, ti98), (100, ti100)], [14, 36, 38, 48, 70, 71, 72], bs, none, []⟩
abbrev n_roll_fill : FuncId := 28
theorem b_roll_fill : Tryz.prog.funcs[n_roll_fill]? = some Tryz.f28 := Tryz.func28
theorem good_roll_fill (W0 : World) (S : Nat → Prop) (bs : List Nat := []) : Good (cx_roll_fill W0 S bs) := ⟨fmc ⟨ok3, fmc ⟨ok4, fmc ⟨ok5, fmc ⟨ok9, fmc ⟨ok25, fmc ⟨ok26, fmc ⟨ok32, fmc ⟨ok43, fmc ⟨ok50, fmc ⟨ok98, fmc ⟨ok100, (fun _ h => by cases h)⟩⟩⟩⟩⟩⟩⟩⟩⟩⟩⟩, fmc ⟨by kernel_rfl, fmc ⟨by kernel_rfl, fmc ⟨by kernel_rfl, fmc ⟨by kernel_rfl, fmc ⟨by kernel_rfl, fmc ⟨by kernel_rfl, fmc ⟨by kernel_rfl, (fun _ h => by cases h)⟩⟩⟩⟩⟩⟩⟩, mixed⟩
noncomputable def cx_roll_lines (W0 : World) (S : Nat → Prop) (bs : List Nat := []) : Cx := ⟨Tryz.prog, W0, S, 4, [(25, ti25)], [76], bs, none, []⟩
abbrev n_roll_lines : FuncId := 31
theorem b_roll_lines : Tryz.prog.funcs[n_roll_lines]? = some Tryz.f31 := Tryz.func31
theorem good_roll_lines (W0 : World) (S : Nat → Prop) (bs : List Nat := []) : Good (cx_roll_lines W0 S bs) := ⟨fmc ⟨ok25, (fun _ h => by cases h)⟩, fmc ⟨by kernel_rfl, (fun _ h => by cases h)⟩, mixed⟩
noncomputable def cx_strings_Builder_WriteString (W0 : World) (S : Nat → Prop) (bs : List Nat := []) : Cx := ⟨Tryz.prog, W0, S, 19, [(5, ti5), (9, ti9), (43, ti43), (67, ti67), (69, ti69)], [82], bs, none, []⟩
abbrev n_strings_Builder_WriteString : FuncId := 32
theorem b_strings_Builder_WriteString : Tryz.prog.funcs[n_strings_Builder_WriteString]? = some Tryz.f32 := Tryz.func32
theorem good_strings_Builder_WriteString (W0 : World) (S : Nat → Prop) (bs : List Nat := []) : Good (cx_strings_Builder_WriteString W0 S bs) := ⟨fmc ⟨ok5, fmc ⟨ok9, fmc ⟨ok43, fmc ⟨ok67, fmc ⟨ok69, (fun _ h => by cases h)⟩⟩⟩⟩⟩, fmc ⟨by kernel_rfl, (fun _ h => by cases h)⟩, mixed⟩
noncomputable def cx_strings_Builder_String (W0 : World) (S : Nat → Prop) (bs : List Nat := []) : Cx := ⟨Tryz.prog, W0, S, 14, [(3, ti3), (5, ti5), (43, ti43), (67, ti67), (69, ti69), (142, ti142)], [], bs, none, []⟩
abbrev n_strings_Builder_String : FuncId := 33
theorem b_strings_Builder_String : Tryz.prog.funcs[n_strings_Builder_String]? = some Tryz.f33 := Tryz.func33
def p_strings_Builder_String_1 : Plan := .take 0 (.take 1 (.take 2 (.take 3 (.take 5 (.take 6 (.take 7 (.take 8 (.take 9 (.exec 4 (.exec 10 (.take 11 (.done))))))))))))
theorem good_strings_Builder_String (W0 : World) (S : Nat → Prop) (bs : List Nat := []) : Good (cx_strings_Builder_String W0 S bs) := ⟨fmc ⟨ok3, fmc ⟨ok5, fmc ⟨ok43, fmc ⟨ok67, fmc ⟨ok69, fmc ⟨ok142, (fun _ h => by cases h)⟩⟩⟩⟩⟩⟩, (fun _ h => by cases h), mixed⟩
noncomputable def cx_ostiaryref15_Split (W0 : World) (S : Nat → Prop) (bs : List Nat := []) : Cx := ⟨Tryz.prog, W0, S, 35, [(3, ti3), (5, ti5), (9, ti9), (32, ti32)], [], bs, none, []⟩
abbrev n_ostiaryref15_Split : FuncId := 34
theorem b_ostiaryref15_Split : Tryz.prog.funcs[n_ostiaryref15_Split]? = some Tryz.f34 := Tryz.func34
theorem good_ostiaryref15_Split (W0 : World) (S : Nat → Prop) (bs : List Nat := []) : Good (cx_ostiaryref15_Split W0 S bs) := ⟨fmc ⟨ok3, fmc ⟨ok5, fmc ⟨ok9, fmc ⟨ok32, (fun _ h => by cases h)⟩⟩⟩⟩, (fun _ h => by cases h), mixed⟩
noncomputable def cx_roll_Lines_1 (W0 : World) (S : Nat → Prop) (bs : List Nat := []) : Cx := ⟨Tryz.prog, W0, S, 23, [(3, ti3), (9, ti9)], [36], bs, none, []⟩
abbrev n_roll_Lines_1 : FuncId := 35
theorem b_roll_Lines_1 : Tryz.prog.funcs[n_roll_Lines_1]? = some Tryz.f35 := Tryz.func35
theorem good_roll_Lines_1 (W0 : World) (S : Nat → Prop) (bs : List Nat := []) : Good (cx_roll_Lines_1 W0 S bs) := ⟨fmc ⟨ok3, fmc ⟨ok9, (fun _ h => by cases h)⟩⟩, fmc ⟨by kernel_rfl, (fun _ h => by cases h)⟩, mixed⟩
abbrev n_strings_Cut : FuncId := 36
noncomputable def cx_ostiaryref01_Go (W0 : World) (S : Nat → Prop) (bs : List Nat := []) : Cx := ⟨Tryz.prog, W0, S, 17, [(3, ti3), (5, ti5), (43, ti43), (116, ti116), (118, ti118)], [109], bs, none, []⟩
abbrev n_ostiaryref01_Go : FuncId := 59
theorem b_ostiaryref01_Go : Tryz.prog.funcs[n_ostiaryref01_Go]? = some Tryz.f59 := Tryz.func59
def p_ostiaryref01_Go_2 : Plan := .take 1 (.take 2 (.take 4 (.take 5 (.exec 0 (.exec 3 (.exec 6 (.take 7 (.done))))))))
theorem good_ostiaryref01_Go (W0 : World) (S : Nat → Prop) (bs : List Nat := []) : Good (cx_ostiaryref01_Go W0 S bs) := ⟨fmc ⟨ok3, fmc ⟨ok5, fmc ⟨ok43, fmc ⟨ok116, fmc ⟨ok118, (fun _ h => by cases h)⟩⟩⟩⟩⟩, fmc ⟨by kernel_rfl, (fun _ h => by cases h)⟩, mixed⟩
noncomputable def cx_ostiaryref01_First (W0 : World) (S : Nat → Prop) (bs : List Nat := []) : Cx := ⟨Tryz.prog, W0, S, 2, [(116, ti116), (118, ti118)], [], bs, none, []⟩
abbrev n_ostiaryref01_First : FuncId := 60
theorem b_ostiaryref01_First : Tryz.prog.funcs[n_ostiaryref01_First]? = some Tryz.f60 := Tryz.func60
theorem good_ostiaryref01_First (W0 : World) (S : Nat → Prop) (bs : List Nat := []) : Good (cx_ostiaryref01_First W0 S bs) := ⟨fmc ⟨ok116, fmc ⟨ok118, (fun _ h => by cases h)⟩⟩, (fun _ h => by cases h), mixed⟩
noncomputable def cx_ostiaryref01_Tail (W0 : World) (S : Nat → Prop) (bs : List Nat := []) : Cx := ⟨Tryz.prog, W0, S, 22, [(3, ti3), (5, ti5), (43, ti43), (50, ti50)], [110], bs, none, []⟩
abbrev n_ostiaryref01_Tail : FuncId := 61
theorem b_ostiaryref01_Tail : Tryz.prog.funcs[n_ostiaryref01_Tail]? = some Tryz.f61 := Tryz.func61
theorem good_ostiaryref01_Tail (W0 : World) (S : Nat → Prop) (bs : List Nat := []) : Good (cx_ostiaryref01_Tail W0 S bs) := ⟨fmc ⟨ok3, fmc ⟨ok5, fmc ⟨ok43, fmc ⟨ok50, (fun _ h => by cases h)⟩⟩⟩⟩, fmc ⟨by kernel_rfl, (fun _ h => by cases h)⟩, mixed⟩
noncomputable def cx_ostiaryref01_Out (W0 : World) (S : Nat → Prop) (bs : List Nat := []) : Cx := ⟨Tryz.prog, W0, S, 17, [(3, ti3), (5, ti5), (43, ti43), (50, ti50), (116, ti116), (118, ti118)], [110], bs, none, []⟩
abbrev n_ostiaryref01_Out : FuncId := 62
theorem b_ostiaryref01_Out : Tryz.prog.funcs[n_ostiaryref01_Out]? = some Tryz.f62 := Tryz.func62
theorem good_ostiaryref01_Out (W0 : World) (S : Nat → Prop) (bs : List Nat := []) : Good (cx_ostiaryref01_Out W0 S bs) := ⟨fmc ⟨ok3, fmc ⟨ok5, fmc ⟨ok43, fmc ⟨ok50, fmc ⟨ok116, fmc ⟨ok118, (fun _ h => by cases h)⟩⟩⟩⟩⟩⟩, fmc ⟨by kernel_rfl, (fun _ h => by cases h)⟩, mixed⟩
noncomputable def cx_b64_Hex (W0 : World) (S : Nat → Prop) (bs : List Nat := []) : Cx := ⟨Tryz.prog, W0, S, 22, [(3, ti3), (5, ti5), (9, ti9), (43, ti43), (67, ti67), (69, ti69)], [33, 111], bs, none, []⟩
abbrev n_b64_Hex : FuncId := 63
theorem b_b64_Hex : Tryz.prog.funcs[n_b64_Hex]? = some Tryz.f63 := Tryz.func63
theorem good_b64_Hex (W0 : World) (S : Nat → Prop) (bs : List Nat := []) : Good (cx_b64_Hex W0 S bs) := ⟨fmc ⟨ok3, fmc ⟨ok5, fmc ⟨ok9, fmc ⟨ok43, fmc ⟨ok67, fmc ⟨ok69, (fun _ h => by cases h)⟩⟩⟩⟩⟩⟩, fmc ⟨by kernel_rfl, fmc ⟨by kernel_rfl, (fun _ h => by cases h)⟩⟩, mixed⟩
noncomputable def cx_sha_Sum (W0 : World) (S : Nat → Prop) (bs : List Nat := []) : Cx := ⟨Tryz.prog, W0, S, 13, [(5, ti5), (43, ti43), (116, ti116), (117, ti117), (169, ti169), (170, ti170)], [112, 113, 114, 115], bs, none, []⟩
abbrev n_sha_Sum : FuncId := 64
theorem b_sha_Sum : Tryz.prog.funcs[n_sha_Sum]? = some Tryz.f64 := Tryz.func64
theorem good_sha_Sum (W0 : World) (S : Nat → Prop) (bs : List Nat := []) : Good (cx_sha_Sum W0 S bs) := ⟨fmc ⟨ok5, fmc ⟨ok43, fmc ⟨ok116, fmc ⟨ok117, fmc ⟨ok169, fmc ⟨ok170, (fun _ h => by cases h)⟩⟩⟩⟩⟩⟩, fmc ⟨by kernel_rfl, fmc ⟨by kernel_rfl, fmc ⟨by kernel_rfl, fmc ⟨by kernel_rfl, (fun _ h => by cases h)⟩⟩⟩⟩, mixed⟩
noncomputable def cx_b64_Groups (W0 : World) (S : Nat → Prop) (bs : List Nat := []) : Cx := ⟨Tryz.prog, W0, S, 6, [(3, ti3), (9, ti9)], [117], bs, none, []⟩
abbrev n_b64_Groups : FuncId := 66
theorem b_b64_Groups : Tryz.prog.funcs[n_b64_Groups]? = some Tryz.f66 := Tryz.func66
theorem good_b64_Groups (W0 : World) (S : Nat → Prop) (bs : List Nat := []) : Good (cx_b64_Groups W0 S bs) := ⟨fmc ⟨ok3, fmc ⟨ok9, (fun _ h => by cases h)⟩⟩, fmc ⟨by kernel_rfl, (fun _ h => by cases h)⟩, mixed⟩
abbrev n_strings_IndexByte : FuncId := 67
noncomputable def cx_roll_number (W0 : World) (S : Nat → Prop) (bs : List Nat := []) : Cx := ⟨Tryz.prog, W0, S, 20, [(3, ti3), (9, ti9), (50, ti50), (74, ti74)], [77, 119], bs, none, []⟩
abbrev n_roll_number : FuncId := 70
theorem b_roll_number : Tryz.prog.funcs[n_roll_number]? = some Tryz.f70 := Tryz.func70
theorem good_roll_number (W0 : World) (S : Nat → Prop) (bs : List Nat := []) : Good (cx_roll_number W0 S bs) := ⟨fmc ⟨ok3, fmc ⟨ok9, fmc ⟨ok50, fmc ⟨ok74, (fun _ h => by cases h)⟩⟩⟩⟩, fmc ⟨by kernel_rfl, fmc ⟨by kernel_rfl, (fun _ h => by cases h)⟩⟩, mixed⟩
noncomputable def cx_cred_Store_Raise (W0 : World) (S : Nat → Prop) (bs : List Nat := []) : Cx := ⟨Tryz.prog, W0, S, 20, [(9, ti9), (25, ti25), (50, ti50), (113, ti113), (115, ti115), (144, ti144), (146, ti146)], [], bs, none, []⟩
abbrev n_cred_Store_Raise : FuncId := 71
theorem b_cred_Store_Raise : Tryz.prog.funcs[n_cred_Store_Raise]? = some Tryz.f71 := Tryz.func71
theorem good_cred_Store_Raise (W0 : World) (S : Nat → Prop) (bs : List Nat := []) : Good (cx_cred_Store_Raise W0 S bs) := ⟨fmc ⟨ok9, fmc ⟨ok25, fmc ⟨ok50, fmc ⟨ok113, fmc ⟨ok115, fmc ⟨ok144, fmc ⟨ok146, (fun _ h => by cases h)⟩⟩⟩⟩⟩⟩⟩, (fun _ h => by cases h), mixed⟩
noncomputable def cx_roll_lines_1 (W0 : World) (S : Nat → Prop) (bs : List Nat := []) : Cx := ⟨Tryz.prog, W0, S, 29, [(3, ti3), (4, ti4), (5, ti5), (9, ti9), (25, ti25), (32, ti32), (43, ti43), (50, ti50), (98, ti98), (100, ti100), (135, ti135)], [77, 78, 79, 80, 81], bs, none, []⟩
abbrev n_roll_lines_1 : FuncId := 76
theorem b_roll_lines_1 : Tryz.prog.funcs[n_roll_lines_1]? = some Tryz.f76 := Tryz.func76
def p_roll_lines_1_1 : Plan := .take 0 (.take 1 (.exec 2 (.exec 3 (.take 4 (.exec 5 (.take 6 (.done)))))))
theorem good_roll_lines_1 (W0 : World) (S : Nat → Prop) (bs : List Nat := []) : Good (cx_roll_lines_1 W0 S bs) := ⟨fmc ⟨ok3, fmc ⟨ok4, fmc ⟨ok5, fmc ⟨ok9, fmc ⟨ok25, fmc ⟨ok32, fmc ⟨ok43, fmc ⟨ok50, fmc ⟨ok98, fmc ⟨ok100, fmc ⟨ok135, (fun _ h => by cases h)⟩⟩⟩⟩⟩⟩⟩⟩⟩⟩⟩, fmc ⟨by kernel_rfl, fmc ⟨by kernel_rfl, fmc ⟨by kernel_rfl, fmc ⟨by kernel_rfl, fmc ⟨by kernel_rfl, (fun _ h => by cases h)⟩⟩⟩⟩⟩, mixed⟩
noncomputable def cx_roll_dec (W0 : World) (S : Nat → Prop) (bs : List Nat := []) : Cx := ⟨Tryz.prog, W0, S, 5, [(3, ti3), (50, ti50)], [123], bs, none, []⟩
abbrev n_roll_dec : FuncId := 77
theorem b_roll_dec : Tryz.prog.funcs[n_roll_dec]? = some Tryz.f77 := Tryz.func77
theorem good_roll_dec (W0 : World) (S : Nat → Prop) (bs : List Nat := []) : Good (cx_roll_dec W0 S bs) := ⟨fmc ⟨ok3, fmc ⟨ok50, (fun _ h => by cases h)⟩⟩, fmc ⟨by kernel_rfl, (fun _ h => by cases h)⟩, mixed⟩
noncomputable def cx_cred_Store_Last (W0 : World) (S : Nat → Prop) (bs : List Nat := []) : Cx := ⟨Tryz.prog, W0, S, 9, [(9, ti9), (25, ti25), (50, ti50), (113, ti113), (115, ti115), (144, ti144), (146, ti146)], [], bs, none, []⟩
abbrev n_cred_Store_Last : FuncId := 78
theorem b_cred_Store_Last : Tryz.prog.funcs[n_cred_Store_Last]? = some Tryz.f78 := Tryz.func78
theorem good_cred_Store_Last (W0 : World) (S : Nat → Prop) (bs : List Nat := []) : Good (cx_cred_Store_Last W0 S bs) := ⟨fmc ⟨ok9, fmc ⟨ok25, fmc ⟨ok50, fmc ⟨ok113, fmc ⟨ok115, fmc ⟨ok144, fmc ⟨ok146, (fun _ h => by cases h)⟩⟩⟩⟩⟩⟩⟩, (fun _ h => by cases h), mixed⟩
noncomputable def cx_cred_Store_Tenants (W0 : World) (S : Nat → Prop) (bs : List Nat := []) : Cx := ⟨Tryz.prog, W0, S, 4, [(25, ti25)], [124], bs, none, []⟩
abbrev n_cred_Store_Tenants : FuncId := 79
theorem b_cred_Store_Tenants : Tryz.prog.funcs[n_cred_Store_Tenants]? = some Tryz.f79 := Tryz.func79
theorem good_cred_Store_Tenants (W0 : World) (S : Nat → Prop) (bs : List Nat := []) : Good (cx_cred_Store_Tenants W0 S bs) := ⟨fmc ⟨ok25, (fun _ h => by cases h)⟩, fmc ⟨by kernel_rfl, (fun _ h => by cases h)⟩, mixed⟩
abbrev n_strings_Builder_copyCheck : FuncId := 82
noncomputable def cx_ostiaryref01_Step (W0 : World) (S : Nat → Prop) (bs : List Nat := []) : Cx := ⟨Tryz.prog, W0, S, 178, [(3, ti3), (5, ti5), (43, ti43), (50, ti50), (116, ti116), (118, ti118), (127, ti127), (212, ti212)], [159, 160], bs, none, []⟩
abbrev n_ostiaryref01_Step : FuncId := 109
theorem b_ostiaryref01_Step : Tryz.prog.funcs[n_ostiaryref01_Step]? = some Tryz.f109 := Tryz.func109
def p_ostiaryref01_Step_7 : Plan := .take 0 (.take 1 (.take 2 (.take 3 (.take 5 (.take 6 (.take 7 (.take 8 (.take 11 (.take 12 (.take 13 (.take 14 (.take 15 (.exec 4 (.exec 9 (.take 10 (.take 16 (.take 17 (.done))))))))))))))))))
def p_ostiaryref01_Step_8 : Plan := .take 0 (.take 1 (.take 2 (.take 3 (.take 5 (.take 6 (.take 7 (.take 8 (.take 11 (.take 12 (.take 13 (.take 14 (.take 15 (.exec 4 (.exec 9 (.take 10 (.take 16 (.take 17 (.done))))))))))))))))))
def p_ostiaryref01_Step_9 : Plan := .take 0 (.take 1 (.take 2 (.take 3 (.take 4 (.take 5 (.take 6 (.take 7 (.take 8 (.take 9 (.take 10 (.take 11 (.take 12 (.take 13 (.take 14 (.brk 15 (.done))))))))))))))))
def p_ostiaryref01_Step_15 : Plan := .take 0 (.take 1 (.take 2 (.take 4 (.take 7 (.take 11 (.take 12 (.take 13 (.take 14 (.take 15 (.take 16 (.take 17 (.take 18 (.take 19 (.take 20 (.take 22 (.take 23 (.take 24 (.take 26 (.take 27 (.take 28 (.exec 3 (.exec 5 (.take 6 (.exec 8 (.take 9 (.take 10 (.take 21 (.take 25 (.take 29 (.take 30 (.done)))))))))))))))))))))))))))))))
def p_ostiaryref01_Step_17 : Plan := .take 0 (.take 2 (.take 5 (.take 8 (.take 9 (.take 10 (.take 11 (.take 12 (.take 13 (.take 14 (.take 15 (.take 16 (.take 17 (.take 18 (.take 19 (.take 20 (.take 21 (.take 22 (.exec 1 (.exec 3 (.take 4 (.exec 6 (.take 7 (.take 23 (.take 24 (.done)))))))))))))))))))))))))
def p_ostiaryref01_Step_22 : Plan := .take 0 (.take 1 (.take 2 (.take 3 (.take 4 (.take 5 (.take 6 (.take 7 (.brk 8 (.done)))))))))
theorem good_ostiaryref01_Step (W0 : World) (S : Nat → Prop) (bs : List Nat := []) : Good (cx_ostiaryref01_Step W0 S bs) := ⟨fmc ⟨ok3, fmc ⟨ok5, fmc ⟨ok43, fmc ⟨ok50, fmc ⟨ok116, fmc ⟨ok118, fmc ⟨ok127, fmc ⟨ok212, (fun _ h => by cases h)⟩⟩⟩⟩⟩⟩⟩⟩, fmc ⟨by kernel_rfl, fmc ⟨by kernel_rfl, (fun _ h => by cases h)⟩⟩, mixed⟩
noncomputable def cx_ostiaryref01_Bytes (W0 : World) (S : Nat → Prop) (bs : List Nat := []) : Cx := ⟨Tryz.prog, W0, S, 24, [(3, ti3), (5, ti5), (43, ti43), (50, ti50)], [], bs, none, []⟩
abbrev n_ostiaryref01_Bytes : FuncId := 110
theorem b_ostiaryref01_Bytes : Tryz.prog.funcs[n_ostiaryref01_Bytes]? = some Tryz.f110 := Tryz.func110
theorem good_ostiaryref01_Bytes (W0 : World) (S : Nat → Prop) (bs : List Nat := []) : Good (cx_ostiaryref01_Bytes W0 S bs) := ⟨fmc ⟨ok3, fmc ⟨ok5, fmc ⟨ok43, fmc ⟨ok50, (fun _ h => by cases h)⟩⟩⟩⟩, (fun _ h => by cases h), mixed⟩
noncomputable def cx_strings_Builder_WriteByte (W0 : World) (S : Nat → Prop) (bs : List Nat := []) : Cx := ⟨Tryz.prog, W0, S, 17, [(5, ti5), (43, ti43), (67, ti67), (69, ti69)], [82], bs, none, []⟩
abbrev n_strings_Builder_WriteByte : FuncId := 111
theorem b_strings_Builder_WriteByte : Tryz.prog.funcs[n_strings_Builder_WriteByte]? = some Tryz.f111 := Tryz.func111
theorem good_strings_Builder_WriteByte (W0 : World) (S : Nat → Prop) (bs : List Nat := []) : Good (cx_strings_Builder_WriteByte W0 S bs) := ⟨fmc ⟨ok5, fmc ⟨ok43, fmc ⟨ok67, fmc ⟨ok69, (fun _ h => by cases h)⟩⟩⟩⟩, fmc ⟨by kernel_rfl, (fun _ h => by cases h)⟩, mixed⟩
noncomputable def cx_sha_Blocks (W0 : World) (S : Nat → Prop) (bs : List Nat := []) : Cx := ⟨Tryz.prog, W0, S, 4, [(5, ti5), (43, ti43)], [161], bs, none, []⟩
abbrev n_sha_Blocks : FuncId := 112
theorem b_sha_Blocks : Tryz.prog.funcs[n_sha_Blocks]? = some Tryz.f112 := Tryz.func112
theorem good_sha_Blocks (W0 : World) (S : Nat → Prop) (bs : List Nat := []) : Good (cx_sha_Blocks W0 S bs) := ⟨fmc ⟨ok5, fmc ⟨ok43, (fun _ h => by cases h)⟩⟩, fmc ⟨by kernel_rfl, (fun _ h => by cases h)⟩, mixed⟩
noncomputable def cx_bytes_Join (W0 : World) (S : Nat → Prop) (bs : List Nat := []) : Cx := ⟨Tryz.prog, W0, S, 92, [(3, ti3), (5, ti5), (9, ti9), (43, ti43), (169, ti169)], [], bs, none, []⟩
abbrev n_bytes_Join : FuncId := 113
theorem b_bytes_Join : Tryz.prog.funcs[n_bytes_Join]? = some Tryz.f113 := Tryz.func113
theorem good_bytes_Join (W0 : World) (S : Nat → Prop) (bs : List Nat := []) : Good (cx_bytes_Join W0 S bs) := ⟨fmc ⟨ok3, fmc ⟨ok5, fmc ⟨ok9, fmc ⟨ok43, fmc ⟨ok169, (fun _ h => by cases h)⟩⟩⟩⟩⟩, (fun _ h => by cases h), mixed⟩
noncomputable def cx_sha_state_step (W0 : World) (S : Nat → Prop) (bs : List Nat := []) : Cx := ⟨Tryz.prog, W0, S, 144, [(3, ti3), (5, ti5), (43, ti43), (116, ti116), (117, ti117), (170, ti170), (212, ti212)], [165, 166], bs, none, []⟩
abbrev n_sha_state_step : FuncId := 114
theorem b_sha_state_step : Tryz.prog.funcs[n_sha_state_step]? = some Tryz.f114 := Tryz.func114
def p_sha_state_step_1 : Plan := .take 0 (.take 1 (.take 2 (.take 3 (.take 4 (.take 5 (.take 6 (.take 7 (.take 8 (.take 9 (.take 10 (.take 11 (.take 12 (.take 13 (.take 14 (.take 15 (.take 16 (.take 17 (.take 18 (.take 19 (.take 20 (.take 21 (.take 22 (.take 23 (.take 24 (.take 25 (.take 26 (.take 27 (.take 28 (.take 29 (.take 30 (.take 31 (.take 32 (.take 33 (.take 34 (.take 35 (.take 36 (.take 37 (.take 38 (.take 39 (.done))))))))))))))))))))))))))))))))))))))))
def p_sha_state_step_7 : Plan := .take 0 (.take 1 (.take 2 (.take 3 (.take 4 (.take 5 (.take 6 (.take 7 (.take 8 (.take 9 (.take 10 (.take 11 (.take 12 (.take 13 (.done))))))))))))))
def p_sha_state_step_15 : Plan := .take 0 (.take 1 (.take 2 (.take 3 (.take 5 (.take 7 (.exec 4 (.take 6 (.take 8 (.exec 9 (.done))))))))))
theorem good_sha_state_step (W0 : World) (S : Nat → Prop) (bs : List Nat := []) : Good (cx_sha_state_step W0 S bs) := ⟨fmc ⟨ok3, fmc ⟨ok5, fmc ⟨ok43, fmc ⟨ok116, fmc ⟨ok117, fmc ⟨ok170, fmc ⟨ok212, (fun _ h => by cases h)⟩⟩⟩⟩⟩⟩⟩, fmc ⟨by kernel_rfl, fmc ⟨by kernel_rfl, (fun _ h => by cases h)⟩⟩, mixed⟩
noncomputable def cx_sha_state_bytes (W0 : World) (S : Nat → Prop) (bs : List Nat := []) : Cx := ⟨Tryz.prog, W0, S, 28, [(3, ti3), (5, ti5), (43, ti43), (116, ti116), (170, ti170)], [], bs, none, []⟩
abbrev n_sha_state_bytes : FuncId := 115
theorem b_sha_state_bytes : Tryz.prog.funcs[n_sha_state_bytes]? = some Tryz.f115 := Tryz.func115
theorem good_sha_state_bytes (W0 : World) (S : Nat → Prop) (bs : List Nat := []) : Good (cx_sha_state_bytes W0 S bs) := ⟨fmc ⟨ok3, fmc ⟨ok5, fmc ⟨ok43, fmc ⟨ok116, fmc ⟨ok170, (fun _ h => by cases h)⟩⟩⟩⟩⟩, (fun _ h => by cases h), mixed⟩
noncomputable def cx_b64_Groups_1 (W0 : World) (S : Nat → Prop) (bs : List Nat := []) : Cx := ⟨Tryz.prog, W0, S, 24, [(3, ti3), (9, ti9)], [], bs, none, []⟩
abbrev n_b64_Groups_1 : FuncId := 117
theorem b_b64_Groups_1 : Tryz.prog.funcs[n_b64_Groups_1]? = some Tryz.f117 := Tryz.func117
theorem good_b64_Groups_1 (W0 : World) (S : Nat → Prop) (bs : List Nat := []) : Good (cx_b64_Groups_1 W0 S bs) := ⟨fmc ⟨ok3, fmc ⟨ok9, (fun _ h => by cases h)⟩⟩, (fun _ h => by cases h), mixed⟩
noncomputable def cx_strconv_ParseUint (W0 : World) (S : Nat → Prop) (bs : List Nat := []) : Cx := ⟨Tryz.prog, W0, S, 26, [(3, ti3), (9, ti9), (74, ti74)], [168, 169], bs, none, []⟩
abbrev n_strconv_ParseUint : FuncId := 119
theorem b_strconv_ParseUint : Tryz.prog.funcs[n_strconv_ParseUint]? = some Tryz.f119 := Tryz.func119
theorem good_strconv_ParseUint (W0 : World) (S : Nat → Prop) (bs : List Nat := []) : Good (cx_strconv_ParseUint W0 S bs) := ⟨fmc ⟨ok3, fmc ⟨ok9, fmc ⟨ok74, (fun _ h => by cases h)⟩⟩⟩, fmc ⟨by kernel_rfl, fmc ⟨by kernel_rfl, (fun _ h => by cases h)⟩⟩, mixed⟩
noncomputable def cx_strconv_FormatUint (W0 : World) (S : Nat → Prop) (bs : List Nat := []) : Cx := ⟨Tryz.prog, W0, S, 8, [(3, ti3), (50, ti50)], [172], bs, none, []⟩
abbrev n_strconv_FormatUint : FuncId := 123
theorem b_strconv_FormatUint : Tryz.prog.funcs[n_strconv_FormatUint]? = some Tryz.f123 := Tryz.func123
theorem good_strconv_FormatUint (W0 : World) (S : Nat → Prop) (bs : List Nat := []) : Good (cx_strconv_FormatUint W0 S bs) := ⟨fmc ⟨ok3, fmc ⟨ok50, (fun _ h => by cases h)⟩⟩, fmc ⟨by kernel_rfl, (fun _ h => by cases h)⟩, mixed⟩
noncomputable def cx_cred_Store_Tenants_1 (W0 : World) (S : Nat → Prop) (bs : List Nat := []) : Cx := ⟨Tryz.prog, W0, S, 23, [(3, ti3), (9, ti9), (25, ti25), (32, ti32), (50, ti50), (71, ti71), (113, ti113), (115, ti115), (144, ti144), (146, ti146)], [125, 126], bs, none, []⟩
abbrev n_cred_Store_Tenants_1 : FuncId := 124
theorem b_cred_Store_Tenants_1 : Tryz.prog.funcs[n_cred_Store_Tenants_1]? = some Tryz.f124 := Tryz.func124
theorem good_cred_Store_Tenants_1 (W0 : World) (S : Nat → Prop) (bs : List Nat := []) : Good (cx_cred_Store_Tenants_1 W0 S bs) := ⟨fmc ⟨ok3, fmc ⟨ok9, fmc ⟨ok25, fmc ⟨ok32, fmc ⟨ok50, fmc ⟨ok71, fmc ⟨ok113, fmc ⟨ok115, fmc ⟨ok144, fmc ⟨ok146, (fun _ h => by cases h)⟩⟩⟩⟩⟩⟩⟩⟩⟩⟩, fmc ⟨by kernel_rfl, fmc ⟨by kernel_rfl, (fun _ h => by cases h)⟩⟩, mixed⟩
noncomputable def cx_ostiaryref01_Num (W0 : World) (S : Nat → Prop) (bs : List Nat := []) : Cx := ⟨Tryz.prog, W0, S, 19, [(3, ti3), (5, ti5), (43, ti43), (50, ti50)], [], bs, none, []⟩
abbrev n_ostiaryref01_Num : FuncId := 159
theorem b_ostiaryref01_Num : Tryz.prog.funcs[n_ostiaryref01_Num]? = some Tryz.f159 := Tryz.func159
theorem good_ostiaryref01_Num (W0 : World) (S : Nat → Prop) (bs : List Nat := []) : Good (cx_ostiaryref01_Num W0 S bs) := ⟨fmc ⟨ok3, fmc ⟨ok5, fmc ⟨ok43, fmc ⟨ok50, (fun _ h => by cases h)⟩⟩⟩⟩, (fun _ h => by cases h), mixed⟩
noncomputable def cx_ostiaryref01_turn (W0 : World) (S : Nat → Prop) (bs : List Nat := []) : Cx := ⟨Tryz.prog, W0, S, 13, [(116, ti116), (127, ti127)], [], bs, none, []⟩
abbrev n_ostiaryref01_turn : FuncId := 160
theorem b_ostiaryref01_turn : Tryz.prog.funcs[n_ostiaryref01_turn]? = some Tryz.f160 := Tryz.func160
theorem good_ostiaryref01_turn (W0 : World) (S : Nat → Prop) (bs : List Nat := []) : Good (cx_ostiaryref01_turn W0 S bs) := ⟨fmc ⟨ok116, fmc ⟨ok127, (fun _ h => by cases h)⟩⟩, (fun _ h => by cases h), mixed⟩
noncomputable def cx_sha_Blocks_1 (W0 : World) (S : Nat → Prop) (bs : List Nat := []) : Cx := ⟨Tryz.prog, W0, S, 21, [(3, ti3), (5, ti5), (43, ti43), (50, ti50)], [162, 163], bs, none, []⟩
abbrev n_sha_Blocks_1 : FuncId := 161
theorem b_sha_Blocks_1 : Tryz.prog.funcs[n_sha_Blocks_1]? = some Tryz.f161 := Tryz.func161
def p_sha_Blocks_1_0 : Plan := .take 0 (.take 2 (.take 3 (.take 4 (.exec 1 (.exec 5 (.exec 6 (.take 7 (.done))))))))
theorem good_sha_Blocks_1 (W0 : World) (S : Nat → Prop) (bs : List Nat := []) : Good (cx_sha_Blocks_1 W0 S bs) := ⟨fmc ⟨ok3, fmc ⟨ok5, fmc ⟨ok43, fmc ⟨ok50, (fun _ h => by cases h)⟩⟩⟩⟩, fmc ⟨by kernel_rfl, fmc ⟨by kernel_rfl, (fun _ h => by cases h)⟩⟩, mixed⟩
noncomputable def cx_bytes_Clone (W0 : World) (S : Nat → Prop) (bs : List Nat := []) : Cx := ⟨Tryz.prog, W0, S, 8, [(5, ti5), (43, ti43)], [], bs, none, []⟩
abbrev n_bytes_Clone : FuncId := 162
theorem b_bytes_Clone : Tryz.prog.funcs[n_bytes_Clone]? = some Tryz.f162 := Tryz.func162
theorem good_bytes_Clone (W0 : World) (S : Nat → Prop) (bs : List Nat := []) : Good (cx_bytes_Clone W0 S bs) := ⟨fmc ⟨ok5, fmc ⟨ok43, (fun _ h => by cases h)⟩⟩, (fun _ h => by cases h), mixed⟩
noncomputable def cx_sha_ends (W0 : World) (S : Nat → Prop) (bs : List Nat := []) : Cx := ⟨Tryz.prog, W0, S, 21, [(3, ti3), (5, ti5), (43, ti43), (50, ti50)], [196], bs, none, []⟩
abbrev n_sha_ends : FuncId := 163
theorem b_sha_ends : Tryz.prog.funcs[n_sha_ends]? = some Tryz.f163 := Tryz.func163
theorem good_sha_ends (W0 : World) (S : Nat → Prop) (bs : List Nat := []) : Good (cx_sha_ends W0 S bs) := ⟨fmc ⟨ok3, fmc ⟨ok5, fmc ⟨ok43, fmc ⟨ok50, (fun _ h => by cases h)⟩⟩⟩⟩, fmc ⟨by kernel_rfl, (fun _ h => by cases h)⟩, mixed⟩
noncomputable def cx_sha_spread (W0 : World) (S : Nat → Prop) (bs : List Nat := []) : Cx := ⟨Tryz.prog, W0, S, 65, [(3, ti3), (5, ti5), (43, ti43), (116, ti116), (212, ti212)], [166, 197], bs, none, []⟩
abbrev n_sha_spread : FuncId := 165
theorem b_sha_spread : Tryz.prog.funcs[n_sha_spread]? = some Tryz.f165 := Tryz.func165
def p_sha_spread_10 : Plan := .take 0 (.take 1 (.take 2 (.take 3 (.take 4 (.take 5 (.take 6 (.take 7 (.take 8 (.take 9 (.done))))))))))
def p_sha_spread_13 : Plan := .take 0 (.take 1 (.take 2 (.take 3 (.take 4 (.take 5 (.take 6 (.take 7 (.take 8 (.take 9 (.take 10 (.take 11 (.take 12 (.take 13 (.take 14 (.brk 15 (.done))))))))))))))))
theorem good_sha_spread (W0 : World) (S : Nat → Prop) (bs : List Nat := []) : Good (cx_sha_spread W0 S bs) := ⟨fmc ⟨ok3, fmc ⟨ok5, fmc ⟨ok43, fmc ⟨ok116, fmc ⟨ok212, (fun _ h => by cases h)⟩⟩⟩⟩⟩, fmc ⟨by kernel_rfl, fmc ⟨by kernel_rfl, (fun _ h => by cases h)⟩⟩, mixed⟩
noncomputable def cx_math_bits_RotateLeft32 (W0 : World) (S : Nat → Prop) (bs : List Nat := []) : Cx := ⟨Tryz.prog, W0, S, 17, [(3, ti3), (116, ti116), (127, ti127)], [], bs, none, []⟩
abbrev n_math_bits_RotateLeft32 : FuncId := 166
theorem b_math_bits_RotateLeft32 : Tryz.prog.funcs[n_math_bits_RotateLeft32]? = some Tryz.f166 := Tryz.func166
theorem good_math_bits_RotateLeft32 (W0 : World) (S : Nat → Prop) (bs : List Nat := []) : Good (cx_math_bits_RotateLeft32 W0 S bs) := ⟨fmc ⟨ok3, fmc ⟨ok116, fmc ⟨ok127, (fun _ h => by cases h)⟩⟩⟩, (fun _ h => by cases h), mixed⟩
abbrev n_internal_strconv_ParseUint : FuncId := 168
noncomputable def cx_internal_strconv_FormatUint (W0 : World) (S : Nat → Prop) (bs : List Nat := []) : Cx := ⟨Tryz.prog, W0, S, 32, [(3, ti3), (4, ti4), (5, ti5), (9, ti9), (43, ti43), (50, ti50), (244, ti244)], [208, 209, 210, 211], bs, none, []⟩
abbrev n_internal_strconv_FormatUint : FuncId := 172
theorem b_internal_strconv_FormatUint : Tryz.prog.funcs[n_internal_strconv_FormatUint]? = some Tryz.f172 := Tryz.func172
theorem good_internal_strconv_FormatUint (W0 : World) (S : Nat → Prop) (bs : List Nat := []) : Good (cx_internal_strconv_FormatUint W0 S bs) := ⟨fmc ⟨ok3, fmc ⟨ok4, fmc ⟨ok5, fmc ⟨ok9, fmc ⟨ok43, fmc ⟨ok50, fmc ⟨ok244, (fun _ h => by cases h)⟩⟩⟩⟩⟩⟩⟩, fmc ⟨by kernel_rfl, fmc ⟨by kernel_rfl, fmc ⟨by kernel_rfl, fmc ⟨by kernel_rfl, (fun _ h => by cases h)⟩⟩⟩⟩, mixed⟩
noncomputable def cx_sha_long (W0 : World) (S : Nat → Prop) (bs : List Nat := []) : Cx := ⟨Tryz.prog, W0, S, 19, [(3, ti3), (5, ti5), (43, ti43), (50, ti50)], [], bs, none, []⟩
abbrev n_sha_long : FuncId := 196
theorem b_sha_long : Tryz.prog.funcs[n_sha_long]? = some Tryz.f196 := Tryz.func196
theorem good_sha_long (W0 : World) (S : Nat → Prop) (bs : List Nat := []) : Good (cx_sha_long W0 S bs) := ⟨fmc ⟨ok3, fmc ⟨ok5, fmc ⟨ok43, fmc ⟨ok50, (fun _ h => by cases h)⟩⟩⟩⟩, (fun _ h => by cases h), mixed⟩
noncomputable def cx_sha_word (W0 : World) (S : Nat → Prop) (bs : List Nat := []) : Cx := ⟨Tryz.prog, W0, S, 25, [(5, ti5), (43, ti43), (116, ti116)], [], bs, none, []⟩
abbrev n_sha_word : FuncId := 197
theorem b_sha_word : Tryz.prog.funcs[n_sha_word]? = some Tryz.f197 := Tryz.func197
def p_sha_word_1 : Plan := .take 0 (.take 1 (.take 2 (.take 3 (.take 4 (.take 5 (.take 6 (.take 7 (.take 8 (.take 9 (.take 10 (.take 11 (.take 12 (.take 13 (.take 14 (.take 15 (.take 16 (.take 17 (.take 18 (.take 19 (.take 20 (.take 21 (.take 22 (.done)))))))))))))))))))))))
theorem good_sha_word (W0 : World) (S : Nat → Prop) (bs : List Nat := []) : Good (cx_sha_word W0 S bs) := ⟨fmc ⟨ok5, fmc ⟨ok43, fmc ⟨ok116, (fun _ h => by cases h)⟩⟩⟩, (fun _ h => by cases h), mixed⟩
abbrev n_internal_strconv_small : FuncId := 208
end Go.Proofs.YtloeaiafphkjnaaGreatDoor.Sx

namespace Go.Proofs.YtloeaiafphkjnaaGreatDoor.Sx
open Go
attribute [local irreducible] Calls
def numB (l : List UInt8) : Nat := l.foldl (fun a x => (a * 256 + x.toNat) % 18446744073709551616) 0
theorem numB_snoc (l : List UInt8) (x : UInt8) : numB (l ++ [x]) = (numB l * 256 + x.toNat) % 18446744073709551616 := by simp [numB]
theorem take_snoc (l : List UInt8) (k : Nat) (h : k < l.length) : l.take (k + 1) = l.take k ++ [l[k]] := by rw [List.take_succ_eq_append_getElem h]
theorem wrap_u64 (x : Int) : IntKind.u64.wrap x = x % 18446744073709551616 := by simp [IntKind.wrap, IntKind.bits, IntKind.signed]
theorem num_c (w : World) (A : Option Addr) (l : List UInt8) (c : Nat) (hr : Bs w A l) (hn : l.length ≤ lim) :
    Calls Tryz.prog n_ostiaryref01_Num #[.slice A l.length c] w fun e w' => ∃ v, e = .returned v ∧ v = .int .u64 (numB l) ∧ Chg None_ w w' := by
  rw [lim_eq] at hn
  have g := good_ostiaryref01_Num w None_
  refine calls_of_sx (cx := cx_ostiaryref01_Num w None_) g b_ostiaryref01_Num rfl rfl (β := Va.z) [.c (.v (.slice A l.length c))] 0 [] [bsF A l] rfl rfl ((Sat.start rfl).rd (fun _ h => by cases h) hr) ?_
  refine loop_rule 0 (fun k : Nat => [(6, .c (.v (.slice A l.length c))), (7, .c (.v (.int .i64 l.length))), (8, .c (.v (.int .i64 k))), (3, .c (.v (.int .u64 (numB (l.take k)))))]) (fun _ => []) (fun _ => [bsF A l])
    (fun k => k ≤ l.length) (fun k => l.length - k) 0 (Nat.zero_le _) (Ent.same ⟨rfl, rfl, rfl, rfl, trivial⟩ rfl) g ?_
  intro k hk
  refine BIf.dec (fun hlt => ?_) (fun hge => ?_)
  · have hlt : k < l.length := by omega
    obtain ⟨ad, hA⟩ := Bs.addr hr (by omega)
    refine ⟨ad, k, hA, rfl, hlt, byte l[k], fun β w hs => Bs.cell (hs.get 0 rfl) hA hlt, ?_⟩
    refine ⟨_, wrap_u64 _, ?_⟩
    refine ⟨((l[k].toNat : Nat) : Int), by rw [wrap_u64]; have := l[k].toNat_lt; omega, ?_⟩
    refine ⟨(numB (l.take (k + 1)) : Int), by rw [wrap_u64, take_snoc l k hlt, numB_snoc]; omega, ?_⟩
    refine ⟨((k + 1 : Nat) : Int), by rw [wrap_i64 (by omega) (by omega)]; rfl, ?_⟩
    exact ⟨k + 1, hlt, by omega, Ent.same ⟨rfl, rfl, rfl, rfl, trivial⟩ rfl⟩
  · intro β w' hs
    refine ⟨?_, hs.chg⟩
    show Value.int .u64 (numB (l.take k)) = _
    rw [List.take_of_length_le (by omega)]
def be : Nat → Nat → List UInt8
  | 0, _ => []
  | k + 1, n => be k (n / 256) ++ [UInt8.ofNat (n % 256)]
theorem be_length : ∀ k n, (be k n).length = k
  | 0, _ => rfl
  | k + 1, n => by simp [be, be_length k]
theorem ofNat_toNat (n : Nat) (h : n < 256) : (UInt8.ofNat n).toNat = n := by simp; omega
theorem byte_ofNat (n : Nat) (h : n < 256) : byte (UInt8.ofNat n) = .int .u8 (n : Int) := by simp only [byte, ofNat_toNat n h]
theorem wrap_u8 (x : Int) : IntKind.u8.wrap x = x % 256 := by simp [IntKind.wrap, IntKind.bits, IntKind.signed]
theorem NewRow.none (w w' : World) (e : Nat) : NewRow w w' none [] 0 e :=
  ⟨Nat.le_refl _, Nat.zero_le _, World.ownsRow_nil w' 0 e 1, fun k hk => by cases hk⟩
theorem NewRow.from {w w1 w' : World} {A : Option Addr} {l : List UInt8} {c e : Nat} (h : NewRow w1 w' A l c e) (hs : w.heap.size ≤ w1.heap.size) : NewRow w w' A l c e :=
  ⟨h.1, h.2.1, h.2.2.1, fun k hk => Nat.le_trans hs (h.2.2.2 k hk)⟩
theorem bytes_c (w : World) (n k : Nat) (hn : n < 18446744073709551616) (hk : k ≤ 4096) :
    Calls Tryz.prog n_ostiaryref01_Bytes #[.int .u64 n, .int .i64 k] w fun e w' => ∃ v, e = .returned v ∧ ∃ A' c', v = .slice A' (be k n).length c' ∧ Chg None_ w w' ∧ NewRow w w' A' (be k n) c' ty_uint8 := by
  have g := good_ostiaryref01_Bytes w None_
  refine calls_of_sx (cx := cx_ostiaryref01_Bytes w None_) g b_ostiaryref01_Bytes rfl rfl (β := Va.z) [.c (.v (.int .u64 n)), .c (.v (.int .i64 k))] 0 [] [] rfl rfl (Sat.start rfl) ?_
  refine ⟨k, k, rfl, rfl, Nat.le_refl _, by show 1 * k ≤ _; omega, by rw [maxLen_eq]; omega, ?_⟩
  intro b
  refine ⟨_, wrap_i64 (by omega) (by omega), ?_⟩
  refine loop_rule (ι := Nat × Nat × List UInt8) 0 (fun i => [(0, .c (.v (.int .u64 i.2.1))), (5, .c (.v (.slice (some ⟨b, 0, none⟩) k k))), (6, .c (.v (.int .i64 ((i.1 : Int) - 1))))]) (fun _ => [])
    (fun i => [rowF ty_uint8 1 (.slice (some ⟨b, 0, none⟩) k k) k (List.replicate i.1 (.int .u8 0) ++ i.2.2.map byte)])
    (fun i => i.2.1 < 18446744073709551616 ∧ i.1 ≤ k ∧ i.1 + i.2.2.length = k ∧ be i.1 i.2.1 ++ i.2.2 = be k n) (fun i => i.1) (k, n, []) ⟨hn, Nat.le_refl _, by simp, by simp⟩ (Ent.mk' ⟨rfl, rfl, rfl, trivial⟩ rfl ?_) g ?_
  · intro β w' hs
    have e : repl ti5.zero k = List.replicate k (.int .u8 0) ++ List.map byte [] := by
      have : ∀ k, repl [Value.int .u8 0] k = List.replicate k (.int .u8 0) := fun k => by
        induction k with
        | zero => rfl
        | succ k ih => simp [repl, ih, List.replicate_succ]
      simp only [List.map_nil, List.append_nil]
      exact this k
    rw [← e]
    exact hs
  rintro ⟨i, m, suf⟩ ⟨hm, hik, hlen, hbe⟩
  simp only at hm hik hlen hbe
  refine BIf.dec (fun h0 => ?_) (fun h0 => ?_)
  · obtain ⟨j, rfl⟩ : ∃ j, i = j + 1 := ⟨i - 1, by omega⟩
    refine ⟨by omega, ((m % 256 : Nat) : Int), by dsimp only; rw [Int.tmod_eq_emod_of_nonneg (by omega)]; omega, ?_⟩
    refine ⟨((m % 256 : Nat) : Int), by rw [wrap_u8]; omega, ?_⟩
    refine ⟨⟨b, 0, none⟩, j, rfl, by omega, by omega, ?_⟩
    refine ⟨_, fun β w' hs => Sat.rowSet hs (j := 0) (us := [.int .u8 ((m % 256 : Nat) : Int)]) rfl (by show j * 1 + 1 ≤ k * 1; omega) (fun u hu => by obtain rfl := List.mem_singleton.1 hu; rfl), ?_⟩
    refine ⟨by omega, ((m / 256 : Nat) : Int), by dsimp only; rw [wrap_u64, Int.tdiv_eq_ediv_of_nonneg (by omega)]; omega, ?_⟩
    refine ⟨((j : Int) - 1), by rw [wrap_i64 (by omega) (by omega)]; omega, ?_⟩
    refine ⟨(j, m / 256, UInt8.ofNat (m % 256) :: suf), ⟨by show m / 256 < _; omega, by show j ≤ k; omega, by show j + (suf.length + 1) = k; omega, by
      show be j (m / 256) ++ (UInt8.ofNat (m % 256) :: suf) = _
      rw [← hbe]; simp [be]⟩, by show j < j + 1; omega, Ent.mk' ⟨rfl, rfl, rfl, trivial⟩ rfl ?_⟩
    intro β w' hs
    have e : putAll (List.replicate (j + 1) (Value.int .u8 0) ++ suf.map byte) (j * 1) [.int .u8 ((m % 256 : Nat) : Int)] = List.replicate j (.int .u8 0) ++ (UInt8.ofNat (m % 256) :: suf).map byte := by
      rw [putAll, putAll, putAt_eq, Nat.mul_one, List.replicate_succ', List.append_assoc, List.set_append_right _ _ (by simp)]
      simp [byte_ofNat _ (Nat.mod_lt m (by omega : 0 < 256))]
    rw [← e]
    exact hs
  · intro β w' hs
    have hi : i = 0 := by omega
    subst hi
    simp only [be, List.nil_append] at hbe
    refine ⟨some ⟨b, 0, none⟩, k, by rw [be_length]; rfl, hs.chg, hs.newRow rfl 0 ?_ (by rw [be_length]; omega) (by rw [maxLen_eq]; omega)⟩
    rw [← hbe] at *
    show some (rowF _ 1 (.slice _ k k) k _) = some (rowF _ 1 (.slice _ suf.length k) suf.length _)
    rw [show suf.length = k by omega]
    rfl
end Go.Proofs.YtloeaiafphkjnaaGreatDoor.Sx

namespace Go.Proofs
open Go.Shelf
def Tryz.lays156_ren : Go.Shelf.Ren := ⟨fun | 156 => 129 | 165 => 176 | 166 => 32 | 169 => 33 | 240 => 82 | 241 => 213 | 276 => 133 | 277 => 164 | n => n, fun | 31 => 32 | 9 => 9 | 3 => 3 | 4 => 4 | 0 => 0 | 20 => 20 | 72 => 69 | 76 => 75 | 70 => 67 | 37 => 43 | 75 => 74 | 127 => 142 | 164 => 191 | 5 => 5 | 80 => 77 | n => n, fun | n => n⟩
theorem Tryz.lays156 : Go.Proofs.Lays.n156 Tryz.prog Tryz.lays156_ren := {
  mixed := by kernel_rfl
  f156 := Tryz.func129.trans (congrArg some (by kernel_rfl))
  f165 := Tryz.func176.trans (congrArg some (by kernel_rfl))
  f166 := Tryz.func32.trans (congrArg some (by kernel_rfl))
  f169 := Tryz.func33.trans (congrArg some (by kernel_rfl))
  f240 := Tryz.func82.trans (congrArg some (by kernel_rfl))
  f241 := Tryz.func213.trans (congrArg some (by kernel_rfl))
  f276 := Tryz.func133.trans (congrArg some (by kernel_rfl))
  f277 := Tryz.func164.trans (congrArg some (by kernel_rfl))
  t0 := Tryz.underlying0
  a0 := Tryz.isAgg0
  z0 := Tryz.sizeOf0
  v0 := Tryz.zeroValue0
  t3 := Tryz.underlying3
  a3 := Tryz.isAgg3
  z3 := Tryz.sizeOf3
  v3 := Tryz.zeroValue3
  t4 := Tryz.underlying4
  a4 := Tryz.isAgg4
  z4 := Tryz.sizeOf4
  v4 := Tryz.zeroValue4
  t9 := Tryz.underlying9
  a9 := Tryz.isAgg9
  z9 := Tryz.sizeOf9
  v9 := Tryz.zeroValue9
  t20 := Tryz.underlying20
  a20 := Tryz.isAgg20
  z20 := Tryz.sizeOf20
  v20 := Tryz.zeroValue20
  t31 := Tryz.underlying32
  a31 := Tryz.isAgg32
  z31 := Tryz.sizeOf32
  v31 := Tryz.zeroValue32
  t37 := Tryz.underlying43
  a37 := Tryz.isAgg43
  z37 := Tryz.sizeOf43
  v37 := Tryz.zeroValue43
  t70 := Tryz.underlying67
  a70 := Tryz.isAgg67
  z70 := Tryz.sizeOf67
  v70 := Tryz.zeroValue67
  t72 := Tryz.underlying69
  a72 := Tryz.isAgg69
  z72 := Tryz.sizeOf69
  v72 := Tryz.zeroValue69
  t75 := Tryz.underlying74
  a75 := Tryz.isAgg74
  z75 := Tryz.sizeOf74
  v75 := Tryz.zeroValue74
  t76 := Tryz.underlying75
  a76 := Tryz.isAgg75
  z76 := Tryz.sizeOf75
  v76 := Tryz.zeroValue75
  t127 := Tryz.underlying142
  a127 := Tryz.isAgg142
  z127 := Tryz.sizeOf142
  v127 := Tryz.zeroValue142
  t164 := Tryz.underlying191
  a164 := Tryz.isAgg191
  z164 := Tryz.sizeOf191
  v164 := Tryz.zeroValue191 }
theorem Tryz.Builder_Extra_156 : Builder.Extra Tryz.prog Tryz.lays156_ren := {
  sizeBuilder := by kernel_rfl
  liesBuilder := by kernel_rfl
  t5 := Tryz.underlying5
  a5 := Tryz.isAgg5
  z5 := Tryz.sizeOf5
  v5 := Tryz.zeroValue5
  infoByte := by kernel_rfl
  cellsByte := by kernel_rfl
  sizeByte := by kernel_rfl
  neB5 := by decide }
def Tryz.lays137_ren : Go.Shelf.Ren := ⟨fun | 137 => 67 | 217 => 118 | 266 => 167 | n => n, fun | 9 => 9 | 5 => 5 | 3 => 3 | n => n, fun | n => n⟩
theorem Tryz.lays137 : Go.Proofs.Lays.n137 Tryz.prog Tryz.lays137_ren := {
  mixed := by kernel_rfl
  f137 := Tryz.func67.trans (congrArg some (by kernel_rfl))
  f217 := Tryz.func118.trans (congrArg some (by kernel_rfl))
  f266 := Tryz.func167.trans (congrArg some (by kernel_rfl))
  t3 := Tryz.underlying3
  a3 := Tryz.isAgg3
  z3 := Tryz.sizeOf3
  v3 := Tryz.zeroValue3
  t5 := Tryz.underlying5
  a5 := Tryz.isAgg5
  z5 := Tryz.sizeOf5
  v5 := Tryz.zeroValue5
  t9 := Tryz.underlying9
  a9 := Tryz.isAgg9
  z9 := Tryz.sizeOf9
  v9 := Tryz.zeroValue9 }
open Go.RowKit in
theorem Tryz.strings_IndexByte (s : ByteArray) (c : Int) (w : World) :
    Calls Tryz.prog 67 #[.string s, .int .u8 c] w fun e w' => e = .returned (.int .i64 (Lib.indexByte s.data.toList c.toNat.toUInt8)) ∧ w' = w := Any.strings_IndexByte Tryz.lays137 s c w
def Tryz.lays103_ren : Go.Shelf.Ren := ⟨fun | 103 => 24 | 210 => 65 | 206 => 116 | n => n, fun | 9 => 9 | 4 => 4 | 24 => 57 | 3 => 3 | n => n, fun | n => n⟩
theorem Tryz.lays103 : Go.Proofs.Lays.n103 Tryz.prog Tryz.lays103_ren := {
  mixed := by kernel_rfl
  f103 := Tryz.func24.trans (congrArg some (by kernel_rfl))
  f206 := Tryz.func116.trans (congrArg some (by kernel_rfl))
  f210 := Tryz.func65.trans (congrArg some (by kernel_rfl))
  t3 := Tryz.underlying3
  a3 := Tryz.isAgg3
  z3 := Tryz.sizeOf3
  v3 := Tryz.zeroValue3
  t4 := Tryz.underlying4
  a4 := Tryz.isAgg4
  z4 := Tryz.sizeOf4
  v4 := Tryz.zeroValue4
  t9 := Tryz.underlying9
  a9 := Tryz.isAgg9
  z9 := Tryz.sizeOf9
  v9 := Tryz.zeroValue9
  t24 := Tryz.underlying57
  a24 := Tryz.isAgg57
  z24 := Tryz.sizeOf57
  v24 := Tryz.zeroValue57 }
open Go.RowKit in
theorem Tryz.strings_CutPrefix (s p : ByteArray) (w : World) :
    Calls Tryz.prog 24 #[.string s, .string p] w fun e w' => e = .returned (.tuple #[.string ⟨(Lib.trimPrefix s.data.toList p.data.toList).toArray⟩, .bool (Lib.hasPrefix s.data.toList p.data.toList)]) ∧ w' = w := Any.strings_CutPrefix Tryz.lays103 s p w
def Tryz.lays283_ren : Go.Shelf.Ren := ⟨fun | 283 => 208 | n => n, fun | 3 => 3 | 9 => 9 | 4 => 4 | n => n, fun | n => n⟩
theorem Tryz.lays283 : Go.Proofs.Lays.n283 Tryz.prog Tryz.lays283_ren := {
  mixed := by kernel_rfl
  f283 := Tryz.func208.trans (congrArg some (by kernel_rfl))
  t3 := Tryz.underlying3
  a3 := Tryz.isAgg3
  z3 := Tryz.sizeOf3
  v3 := Tryz.zeroValue3
  t4 := Tryz.underlying4
  a4 := Tryz.isAgg4
  z4 := Tryz.sizeOf4
  v4 := Tryz.zeroValue4
  t9 := Tryz.underlying9
  a9 := Tryz.isAgg9
  z9 := Tryz.sizeOf9
  v9 := Tryz.zeroValue9 }
open Go.Lib in
theorem Tryz.internal_strconv_small (i : Nat) (h : i < 100) (w : World) :
    Calls Tryz.prog 208 #[.int .i64 i] w fun e w' => e = .returned (.string ⟨(Lib.decDigits i).toArray⟩) ∧ w' = w := Any.internal_strconv_small Tryz.lays283 i h w
def Tryz.lays287_ren : Go.Shelf.Ren := ⟨fun | 287 => 168 | 321 => 198 | 322 => 199 | n => n, fun | 9 => 9 | 3 => 3 | 53 => 50 | 75 => 74 | 4 => 4 | 167 => 237 | 5 => 5 | 46 => 127 | 37 => 43 | 0 => 0 | 21 => 21 | 80 => 77 | n => n, fun | n => n⟩
theorem Tryz.lays287 : Go.Proofs.Lays.n287 Tryz.prog Tryz.lays287_ren := {
  mixed := by kernel_rfl
  f287 := Tryz.func168.trans (congrArg some (by kernel_rfl))
  f321 := Tryz.func198.trans (congrArg some (by kernel_rfl))
  f322 := Tryz.func199.trans (congrArg some (by kernel_rfl))
  t0 := Tryz.underlying0
  a0 := Tryz.isAgg0
  z0 := Tryz.sizeOf0
  v0 := Tryz.zeroValue0
  t3 := Tryz.underlying3
  a3 := Tryz.isAgg3
  z3 := Tryz.sizeOf3
  v3 := Tryz.zeroValue3
  t4 := Tryz.underlying4
  a4 := Tryz.isAgg4
  z4 := Tryz.sizeOf4
  v4 := Tryz.zeroValue4
  t5 := Tryz.underlying5
  a5 := Tryz.isAgg5
  z5 := Tryz.sizeOf5
  v5 := Tryz.zeroValue5
  t9 := Tryz.underlying9
  a9 := Tryz.isAgg9
  z9 := Tryz.sizeOf9
  v9 := Tryz.zeroValue9
  t21 := Tryz.underlying21
  a21 := Tryz.isAgg21
  z21 := Tryz.sizeOf21
  v21 := Tryz.zeroValue21
  t37 := Tryz.underlying43
  a37 := Tryz.isAgg43
  z37 := Tryz.sizeOf43
  v37 := Tryz.zeroValue43
  t46 := Tryz.underlying127
  a46 := Tryz.isAgg127
  z46 := Tryz.sizeOf127
  v46 := Tryz.zeroValue127
  t53 := Tryz.underlying50
  a53 := Tryz.isAgg50
  z53 := Tryz.sizeOf50
  v53 := Tryz.zeroValue50
  t75 := Tryz.underlying74
  a75 := Tryz.isAgg74
  z75 := Tryz.sizeOf74
  v75 := Tryz.zeroValue74
  t167 := Tryz.underlying237
  a167 := Tryz.isAgg237
  z167 := Tryz.sizeOf237
  v167 := Tryz.zeroValue237 }
open Go.RowKit in
theorem Tryz.internal_strconv_ParseUint_10_at64 (t : ByteArray) (hmax : t.size ≤ 9223372036854775806) (w : World) :
    Calls Tryz.prog 168 #[.string t, .int .i64 10, .int .i64 64] w fun e w' => e = .returned (Lib.uintTupleM 237 18446744073709551615 (Lib.parseUintB 64 t.data.toList)) ∧ (w' = w ∨ w' = Lib.bytesWorld w 5 t) := Any.internal_strconv_ParseUint_10_at64 Tryz.lays287 t hmax w
def Tryz.lays145_ren : Go.Shelf.Ren := ⟨fun | 145 => 36 | 220 => 83 | 219 => 134 | 217 => 118 | 225 => 179 | 224 => 180 | 267 => 181 | 266 => 167 | 314 => 219 | n => n, fun | 9 => 9 | 4 => 4 | 59 => 80 | 3 => 3 | 5 => 5 | 46 => 127 | 146 => 252 | 51 => 116 | n => n, fun | 1 => 3 | n => n⟩
theorem Tryz.lays145 : Go.Proofs.Lays.n145 Tryz.prog Tryz.lays145_ren := {
  mixed := by kernel_rfl
  f145 := Tryz.func36.trans (congrArg some (by kernel_rfl))
  f217 := Tryz.func118.trans (congrArg some (by kernel_rfl))
  f219 := Tryz.func134.trans (congrArg some (by kernel_rfl))
  f220 := Tryz.func83.trans (congrArg some (by kernel_rfl))
  f224 := Tryz.func180.trans (congrArg some (by kernel_rfl))
  f225 := Tryz.func179.trans (congrArg some (by kernel_rfl))
  f266 := Tryz.func167.trans (congrArg some (by kernel_rfl))
  f267 := Tryz.func181.trans (congrArg some (by kernel_rfl))
  f314 := Tryz.func219.trans (congrArg some (by kernel_rfl))
  t3 := Tryz.underlying3
  a3 := Tryz.isAgg3
  z3 := Tryz.sizeOf3
  v3 := Tryz.zeroValue3
  t4 := Tryz.underlying4
  a4 := Tryz.isAgg4
  z4 := Tryz.sizeOf4
  v4 := Tryz.zeroValue4
  t5 := Tryz.underlying5
  a5 := Tryz.isAgg5
  z5 := Tryz.sizeOf5
  v5 := Tryz.zeroValue5
  t9 := Tryz.underlying9
  a9 := Tryz.isAgg9
  z9 := Tryz.sizeOf9
  v9 := Tryz.zeroValue9
  t46 := Tryz.underlying127
  a46 := Tryz.isAgg127
  z46 := Tryz.sizeOf127
  v46 := Tryz.zeroValue127
  t51 := Tryz.underlying116
  a51 := Tryz.isAgg116
  z51 := Tryz.sizeOf116
  v51 := Tryz.zeroValue116
  t59 := Tryz.underlying80
  a59 := Tryz.isAgg80
  z59 := Tryz.sizeOf80
  v59 := Tryz.zeroValue80
  t146 := Tryz.underlying252
  a146 := Tryz.isAgg252
  z146 := Tryz.sizeOf252
  v146 := Tryz.zeroValue252
  g1 := by kernel_rfl }
open Go.RowKit Go.Lib in
theorem Tryz.strings_Cut (s sep : ByteArray) (m : Int) (w : World) (hs : s.size < 4294967281) (hm : w.cell? ⟨3, 0, none⟩ = some (.int .i64 m)) :
    Calls Tryz.prog 36 #[.string s, .string sep] w fun e w' => e = .returned (.tuple #[.string ⟨(Lib.cut s.data.toList sep.data.toList).1.toArray⟩, .string ⟨(Lib.cut s.data.toList sep.data.toList).2.1.toArray⟩, .bool (Lib.cut s.data.toList sep.data.toList).2.2]) ∧ ∃ n, w' = w.drewN n := Any.strings_Cut Tryz.lays145 s sep m w hs hm
def Tryz.lays190_ren : Go.Shelf.Ren := ⟨fun | 190 => 54 | 125 => 107 | 258 => 106 | 128 => 156 | 129 => 157 | 302 => 148 | 303 => 149 | 304 => 150 | 305 => 151 | 306 => 152 | 307 => 153 | 308 => 136 | 309 => 154 | 310 => 155 | 333 => 191 | 329 => 192 | 330 => 193 | 334 => 194 | 335 => 195 | 336 => 182 | 344 => 226 | n => n, fun | 31 => 32 | 9 => 9 | 3 => 3 | 46 => 127 | 0 => 0 | 51 => 116 | 53 => 50 | 4 => 4 | 183 => 204 | 182 => 203 | 131 => 150 | 5 => 5 | 218 => 231 | 222 => 234 | 228 => 265 | 229 => 263 | n => n, fun | n => n⟩
theorem Tryz.lays190 : Go.Proofs.Lays.n190 Tryz.prog Tryz.lays190_ren := {
  mixed := by kernel_rfl
  f125 := Tryz.func107.trans (congrArg some (by kernel_rfl))
  f128 := Tryz.func156.trans (congrArg some (by kernel_rfl))
  f129 := Tryz.func157.trans (congrArg some (by kernel_rfl))
  f190 := Tryz.func54.trans (congrArg some (by kernel_rfl))
  f258 := Tryz.func106.trans (congrArg some (by kernel_rfl))
  f302 := Tryz.func148.trans (congrArg some (by kernel_rfl))
  f303 := Tryz.func149.trans (congrArg some (by kernel_rfl))
  f304 := Tryz.func150.trans (congrArg some (by kernel_rfl))
  f305 := Tryz.func151.trans (congrArg some (by kernel_rfl))
  f306 := Tryz.func152.trans (congrArg some (by kernel_rfl))
  f307 := Tryz.func153.trans (congrArg some (by kernel_rfl))
  f308 := Tryz.func136.trans (congrArg some (by kernel_rfl))
  f309 := Tryz.func154.trans (congrArg some (by kernel_rfl))
  f310 := Tryz.func155.trans (congrArg some (by kernel_rfl))
  f329 := Tryz.func192.trans (congrArg some (by kernel_rfl))
  f330 := Tryz.func193.trans (congrArg some (by kernel_rfl))
  f333 := Tryz.func191.trans (congrArg some (by kernel_rfl))
  f334 := Tryz.func194.trans (congrArg some (by kernel_rfl))
  f335 := Tryz.func195.trans (congrArg some (by kernel_rfl))
  f336 := Tryz.func182.trans (congrArg some (by kernel_rfl))
  f344 := Tryz.func226.trans (congrArg some (by kernel_rfl))
  t0 := Tryz.underlying0
  a0 := Tryz.isAgg0
  z0 := Tryz.sizeOf0
  v0 := Tryz.zeroValue0
  t3 := Tryz.underlying3
  a3 := Tryz.isAgg3
  z3 := Tryz.sizeOf3
  v3 := Tryz.zeroValue3
  t4 := Tryz.underlying4
  a4 := Tryz.isAgg4
  z4 := Tryz.sizeOf4
  v4 := Tryz.zeroValue4
  t5 := Tryz.underlying5
  a5 := Tryz.isAgg5
  z5 := Tryz.sizeOf5
  v5 := Tryz.zeroValue5
  t9 := Tryz.underlying9
  a9 := Tryz.isAgg9
  z9 := Tryz.sizeOf9
  v9 := Tryz.zeroValue9
  t31 := Tryz.underlying32
  a31 := Tryz.isAgg32
  z31 := Tryz.sizeOf32
  v31 := Tryz.zeroValue32
  t46 := Tryz.underlying127
  a46 := Tryz.isAgg127
  z46 := Tryz.sizeOf127
  v46 := Tryz.zeroValue127
  t51 := Tryz.underlying116
  a51 := Tryz.isAgg116
  z51 := Tryz.sizeOf116
  v51 := Tryz.zeroValue116
  t53 := Tryz.underlying50
  a53 := Tryz.isAgg50
  z53 := Tryz.sizeOf50
  v53 := Tryz.zeroValue50
  t131 := Tryz.underlying150
  a131 := Tryz.isAgg150
  z131 := Tryz.sizeOf150
  v131 := Tryz.zeroValue150
  t182 := Tryz.underlying203
  a182 := Tryz.isAgg203
  z182 := Tryz.sizeOf203
  v182 := Tryz.zeroValue203
  t183 := Tryz.underlying204
  a183 := Tryz.isAgg204
  z183 := Tryz.sizeOf204
  v183 := Tryz.zeroValue204
  t218 := Tryz.underlying231
  a218 := Tryz.isAgg231
  z218 := Tryz.sizeOf231
  v218 := Tryz.zeroValue231
  t222 := Tryz.underlying234
  a222 := Tryz.isAgg234
  z222 := Tryz.sizeOf234
  v222 := Tryz.zeroValue234
  t228 := Tryz.underlying265
  a228 := Tryz.isAgg265
  z228 := Tryz.sizeOf265
  v228 := Tryz.zeroValue265
  t229 := Tryz.underlying263
  a229 := Tryz.isAgg263
  z229 := Tryz.sizeOf263
  v229 := Tryz.zeroValue263 }
open Go.Sort Go.RowKit in
theorem Tryz.slices_Sort_string (blk off cap : Nat) (ss : List (List UInt8)) (w : World) (hH : Holds encStr w blk off ss.toArray) (hblk : blk < w.heap.size) (hsz : ss.length < 4611686018427387904) :
    Calls Tryz.prog 54 #[.slice (some ⟨blk, off, none⟩) ss.length cap] w fun e w' =>
      e = .returned (.tuple #[]) ∧ ∃ n os, w' = grow (putRow encStr (Sort.ahead w n) blk off (ss.mergeSort fun x y => decide (x ≤ y)).toArray) os := Any.slices_Sort_string Tryz.lays190 blk off cap ss w hH hblk hsz
def Tryz.lays100_ren : Go.Shelf.Ren := ⟨fun | 100 => 27 | 207 => 69 | n => n, fun | 9 => 9 | 4 => 4 | 3 => 3 | n => n, fun | n => n⟩
theorem Tryz.lays100 : Go.Proofs.Lays.n100 Tryz.prog Tryz.lays100_ren := {
  mixed := by kernel_rfl
  f100 := Tryz.func27.trans (congrArg some (by kernel_rfl))
  f207 := Tryz.func69.trans (congrArg some (by kernel_rfl))
  t3 := Tryz.underlying3
  a3 := Tryz.isAgg3
  z3 := Tryz.sizeOf3
  v3 := Tryz.zeroValue3
  t4 := Tryz.underlying4
  a4 := Tryz.isAgg4
  z4 := Tryz.sizeOf4
  v4 := Tryz.zeroValue4
  t9 := Tryz.underlying9
  a9 := Tryz.isAgg9
  z9 := Tryz.sizeOf9
  v9 := Tryz.zeroValue9 }
open Go.RowKit Go.Lib in
theorem Tryz.strings_HasSuffix (s p : ByteArray) (w : World) (hs : s.size ≤ 9223372036854775807) :
    Calls Tryz.prog 27 #[.string s, .string p] w fun e w' => e = .returned (.bool (Lib.hasSuffix s.data.toList p.data.toList)) ∧ w' = w := Any.strings_HasSuffix Tryz.lays100 s p w hs
def Tryz.lays102_ren : Go.Shelf.Ren := ⟨fun | 102 => 26 | 209 => 68 | 207 => 69 | n => n, fun | 9 => 9 | 4 => 4 | 3 => 3 | n => n, fun | n => n⟩
theorem Tryz.lays102 : Go.Proofs.Lays.n102 Tryz.prog Tryz.lays102_ren := {
  mixed := by kernel_rfl
  f102 := Tryz.func26.trans (congrArg some (by kernel_rfl))
  f207 := Tryz.func69.trans (congrArg some (by kernel_rfl))
  f209 := Tryz.func68.trans (congrArg some (by kernel_rfl))
  t3 := Tryz.underlying3
  a3 := Tryz.isAgg3
  z3 := Tryz.sizeOf3
  v3 := Tryz.zeroValue3
  t4 := Tryz.underlying4
  a4 := Tryz.isAgg4
  z4 := Tryz.sizeOf4
  v4 := Tryz.zeroValue4
  t9 := Tryz.underlying9
  a9 := Tryz.isAgg9
  z9 := Tryz.sizeOf9
  v9 := Tryz.zeroValue9 }
open Go.RowKit Go.Lib in
theorem Tryz.strings_TrimSuffix (s p : ByteArray) (w : World) (hs : s.size ≤ 9223372036854775807) :
    Calls Tryz.prog 26 #[.string s, .string p] w fun e w' => e = .returned (.string ⟨(Lib.trimSuffix s.data.toList p.data.toList).toArray⟩) ∧ w' = w := Any.strings_TrimSuffix Tryz.lays102 s p w hs
open Go.RowKit Go.Sort in
theorem Tryz.slices_Sort_string_none (p : Option Addr) (cap : Nat) (w : World) :
    Calls Tryz.prog 54 #[.slice p 0 cap] w fun e w' => e = .returned (.tuple #[]) ∧ w' = w := Any.slices_Sort_string_none Tryz.lays190 p cap w
end Go.Proofs

namespace Go.Proofs.YtloeaiafphkjnaaGreatDoor.Sx
open Go
attribute [local irreducible] Calls
def selfV (b : Nat) : Value := .pointer (some ⟨b, 0, none⟩)
theorem con_of_calls {P : Program} {k : FuncId} {args : Array Value} {w : World} {Gs : List Fact} {R : Value → List Fact → Prop} (h : Calls P k args w fun e w' => ∃ v, e = .returned v ∧ Fin w Gs R v w') : Con P k args w Gs R := h
theorem fin_one {w w' : World} {f f' : Fact} {R : Value → List Fact → Prop} {v : Value} (hR : R v [f']) (hc : Chg f.D w w') (hp : f'.p w') (ho : f'.own = true) (hD : ∀ k, f'.D k → f.D k ∧ k < w'.heap.size) : Fin w [f] R v w' := by
  have hu : Un [f] = f.D := by funext k; simp [Un]
  refine ⟨[f'], hR, by rw [hu]; exact hc, ⟨fun g hg => ?_, fun g hg k hk => ?_, List.pairwise_singleton _ _⟩, ⟨ho, trivial⟩, fun g hg k hk => ?_⟩
  · obtain rfl := List.mem_singleton.1 hg; exact hp
  · obtain rfl := List.mem_singleton.1 hg; exact (hD k hk).2
  · obtain rfl := List.mem_singleton.1 hg; rw [hu]; exact .inl (hD k hk).1
theorem copyCheck_c (w : World) (b : Nat) (p x : Value) (hp : p = .pointer none ∨ p = selfV b) (h : (bkF b ty_strings_Builder [p, x]).p w) :
    Con Tryz.prog n_strings_Builder_copyCheck #[selfV b] w [bkF b ty_strings_Builder [p, x]] fun v Fs => v = .tuple #[] ∧ Fs = [bkF b ty_strings_Builder [selfV b, x]] := by
  have hb : w.heap[b]? = some (.cells #[p, x] ty_strings_Builder (0, 0)) := h
  have hlt : b < w.heap.size := (Array.getElem?_eq_some_iff.1 hb).1
  have h0 : w.cell? ⟨b, 0, none⟩ = some p := by rw [cell_of_row w b 0 _ _ _ hb]; rfl
  rcases hp with rfl | rfl
  · refine con_of_calls (Calls.mono (Any.Builder_copyCheck_fresh { Tryz.lays156 with } Tryz.Builder_Extra_156.toX72 b w h0 (by simp [World.shape?, hb]; rfl) (by simp [World.frozen?, hb])) ?_)
    rintro e w' ⟨rfl, rfl⟩
    have h2 := heap_setCell_same w b 0 #[.pointer none, x] ty_strings_Builder (selfV b) hb
    refine ⟨_, rfl, fin_one (f' := bkF b ty_strings_Builder [selfV b, x]) ⟨rfl, rfl⟩ ⟨rfl, rfl, rfl, by simp [World.setCell], fun k _ hk => heap_setCell_other w _ k _ hk⟩ h2 rfl (fun k hk => ⟨hk, ?_⟩)⟩
    obtain rfl : k = b := hk
    simpa [World.setCell] using hlt
  · refine con_of_calls (Calls.mono (Any.Builder_copyCheck_used { Tryz.lays156 with } Tryz.Builder_Extra_156.toX72 b w h0) ?_)
    rintro e w' ⟨rfl, rfl⟩
    refine ⟨_, rfl, fin_one (f' := bkF b ty_strings_Builder [selfV b, x]) ⟨rfl, rfl⟩ (Chg.refl _ _) h rfl (fun k hk => ⟨hk, ?_⟩)⟩
    obtain rfl : k = b := hk
    exact hlt
def bldF (b : Nat) (p : Value) (A : Option Addr) (l : List UInt8) (c : Nat) : List Fact := [bkF b ty_strings_Builder [p, .slice A l.length c], browF ty_uint8 A l c]
theorem writeByte_c (w : World) (b : Nat) (p : Value) (A : Option Addr) (l : List UInt8) (c : Nat) (x : UInt8) (hp : p = .pointer none ∨ p = selfV b) (hl : l.length < 140737488355328) (hm : Mem w (bldF b p A l c)) :
    Con Tryz.prog n_strings_Builder_WriteByte #[selfV b, byte x] w (bldF b p A l c) fun v Fs => v = .nilIface ∧ ∃ A' c', Fs = bldF b (selfV b) A' (l ++ [x]) c' := by
  have g := good_strings_Builder_WriteByte w (Un (bldF b p A l c))
  refine con_of_sx (cx := cx_strings_Builder_WriteByte w (Un (bldF b p A l c))) g b_strings_Builder_WriteByte rfl rfl (β := Va.z) [.c (.v (selfV b)), .c (.v (byte x))] 0 [] _ rfl rfl (hm.sat0 rfl (fun f hf _ k hk => ⟨f, hf, hk⟩)) ?_
  refine call_con [0] (fun β w' hs => copyCheck_c w' b p _ hp (hs.get 0 rfl)) ?_
  rintro v Fs ⟨rfl, rfl⟩
  refine ⟨.slice A l.length c, fun β w' hs => by
    have hb : w'.heap[b]? = some (.cells #[selfV b, .slice A l.length c] ty_strings_Builder (0, 0)) := hs.get 0 rfl
    show w'.cell? ⟨b, 1, none⟩ = _
    rw [cell_of_row w' b 1 _ _ _ hb]; rfl, ?_⟩
  intro b2
  refine ⟨2, l.length, l.length + 1, l.map byte, [byte x], (l ++ [x]).map byte, rfl, fun β w' hs => row_rd (hs.get 0 rfl), bytes_one [x], rfl, by simp, by rw [maxLen_eq]; omega, by show (l.length + 1) * 1 ≤ _; omega, ?_⟩
  intro A' c' h1 h2 h3
  refine ⟨_, fun β w' hs => hs.bkSet 1 (o := 1) (us := [.slice A' (l.length + 1) c']) rfl (Nat.le_refl 2) (fun u hu => by obtain rfl := List.mem_singleton.1 hu; rfl), ?_⟩
  intro β w' hs
  have e : (l ++ [x]).length = l.length + 1 := by simp
  refine hs.fin [1, 2] ⟨rfl, A', c', ?_⟩
  show [bkF b ty_strings_Builder [selfV b, .slice A' (l.length + 1) c'], rowF ty_uint8 1 (.slice A' (l.length + 1) c') (l.length + 1) ((l ++ [x]).map byte)] = _
  rw [← e]
  rfl
theorem Mem.none (w : World) : Mem w [] := ⟨fun _ q => (by cases q), fun _ q => (by cases q), List.Pairwise.nil⟩
theorem cellsU8 : Tryz.prog.cellsOf ty_uint8 = 1 := by kernel_rfl
theorem ptr_byte : Tryz.prog.underlying ty_ptr_uint8 = some (.pointer ty_uint8) := by kernel_rfl
theorem text_c (w : World) (b : Nat) (p : Value) (A : Option Addr) (l : List UInt8) (c : Nat) (hne : l ≠ []) (hm : Mem w (bldF b p A l c)) :
    Con Tryz.prog n_strings_Builder_String #[selfV b] w (bldF b p A l c) fun v Fs => v = .string ⟨l.toArray⟩ ∧ Fs = [] := by
  have g := good_strings_Builder_String w (Un (bldF b p A l c))
  have hl0 : l.length ≠ 0 := by simpa using hne
  have hrow : w.ownsRow 0 ty_uint8 1 (.slice A l.length c) l.length (l.map byte) := hm.fact _ (List.mem_cons_of_mem _ List.mem_cons_self)
  obtain ⟨gb, rfl, hlc, hcm⟩ : ∃ gb, A = some ⟨gb, 0, none⟩ ∧ l.length ≤ c ∧ c ≤ maxLen := by
    rcases hrow.2 with ⟨_, hz⟩ | ⟨gb, cap, cur, hv, _, _, h1, h2, _⟩
    · exact absurd hz hl0
    · injection hv with h3 h4 h5
      subst h5
      exact ⟨gb, h3, h1, h2⟩
  refine con_of_sx (cx := cx_strings_Builder_String w (Un (bldF b p (some ⟨gb, 0, none⟩) l c))) g b_strings_Builder_String rfl rfl (β := Va.z) [.c (.v (selfV b))] 0 [] _ rfl rfl (hm.sat0 rfl (fun f hf _ k hk => ⟨f, hf, hk⟩)) ?_
  refine draw_rule g p_strings_Builder_String_1 (by kernel_rfl) [] [bkF b ty_strings_Builder [p, .slice (some ⟨gb, 0, none⟩) l.length c]] (Sub.of (List.nil_sublist _) (List.sublist_append_left [_] [_])) ?_
  have hcell : ∀ (cx : Cx) (n : Nat) (β : Va) (w' : World), Sat cx β n [] [bkF b ty_strings_Builder [p, .slice (some ⟨gb, 0, none⟩) l.length c]] w' → w'.cell? ⟨b, 1, none⟩ = some (.slice (some ⟨gb, 0, none⟩) l.length c) := fun cx n β w' hs => by
    have hb : w'.heap[b]? = some (.cells #[p, .slice (some ⟨gb, 0, none⟩) l.length c] ty_strings_Builder (0, 0)) := hs.get 0 rfl
    rw [cell_of_row w' b 1 _ _ _ hb]; rfl
  refine ⟨.slice (some ⟨gb, 0, none⟩) l.length c, hcell _ _, ?_⟩
  refine ⟨.slice (some ⟨gb, 0, none⟩) l.length c, hcell _ _, ?_⟩
  refine ⟨[], _, .c (.v (.pointer (some ⟨gb, 0, none⟩))), fun β w' ty hs => ⟨w', ?_, hs⟩, trivial, Sub.of (List.nil_sublist _) (List.sublist_append_left [_] [_]), ?_⟩
  · have := Lib.run_unsafeSliceData_row (P := Tryz.prog) w' #[ty_sl_uint8] ty ⟨gb, 0, none⟩ l.length c (by omega)
    simp only [builtin, Sem.run_bind]
    erw [this]
    rfl
  refine ⟨[], [bkF b ty_strings_Builder [p, .slice (some ⟨gb, 0, none⟩) l.length c]], .c (.v (.string ⟨l.toArray⟩)), fun β w' ty hs => ⟨w'.freeze ⟨gb, 0, none⟩ l.length, ?_, ?_⟩, trivial, Sub.refl, ?_⟩
  · have hrow' : w'.ownsRow 0 ty_uint8 1 (.slice (some ⟨gb, 0, none⟩) l.length c) l.length (l.map byte) := hs.get 1 rfl
    obtain ⟨cur, hg, hcs⟩ : ∃ cur, w'.heap[gb]? = some (.cells cur ty_uint8 (0, 0)) ∧ cur.size = c * 1 := by
      rcases hrow'.2 with ⟨_, hz⟩ | ⟨g', cap, cur, hv, _, hg, _, _, h3, _⟩
      · exact absurd hz hl0
      · injection hv with h4 h5 h6
        injection h4 with h4
        injection h4 with h4
        subst h4 h6
        exact ⟨cur, hg, h3⟩
    have := Lib.run_unsafeString_row (P := Tryz.prog) w' ty_ptr_uint8 3 ty ty_uint8 ptr_byte cellsU8 gb cur.size (by simp [World.shape?, hg]) l hne (by omega) (by rw [maxLen_eq] at hcm; omega) (fun j x hx => by
      have hr := row_rd hrow'
      obtain ⟨ad, q, hc⟩ := hr.2 (by omega)
      obtain rfl := Option.some.inj q
      exact hc j (byte x) (by simp [hx]))
    simp only [builtin, Sem.run_bind]
    erw [this]
    rfl
  · refine hs.swap [1] ⟨rfl, trivial⟩ (Fs := []) (Chg.mono (freeze_chg _ _ _) (fun i _ q => ⟨_, List.mem_singleton.2 rfl, ?_⟩)) (Mem.none _) (fun _ q => by cases q)
    obtain rfl : i = gb := q
    rfl
  intro β w' hs
  exact hs.fin [] ⟨rfl, rfl⟩
end Go.Proofs.YtloeaiafphkjnaaGreatDoor.Sx

namespace Go.Proofs.YtloeaiafphkjnaaGreatDoor.Bx
structure Term where
  kind : Nat
  key : List UInt8
  text : List UInt8
  rounds : Nat
  list : List Nat
  mask : List UInt8
def vint (n : Nat) : List UInt8 := if h : n < 128 then [UInt8.ofNat n] else UInt8.ofNat (n % 128 + 128) :: vint (n / 128)
termination_by n
decreasing_by omega
def print (t : Term) : List UInt8 := [t.kind, t.rounds, t.key.length, t.text.length, t.list.length].flatMap vint ++ t.list.flatMap vint ++ (t.key ++ t.text ++ t.mask)
def front : List UInt8 := [0xf1, 84, 82, 77] ++ List.replicate 24 0
def be4 (n : Nat) : List UInt8 := [UInt8.ofNat (n / 16777216), UInt8.ofNat (n / 65536), UInt8.ofNat (n / 256), UInt8.ofNat n]
def handle (n : Nat) : List UInt8 := front ++ be4 n
def num : List UInt8 → Nat := List.foldl (fun n b => n * 256 + b.toNat) 0
def looks (p : List UInt8) : Option Nat := if p.length = 32 ∧ p.take 28 = front then some (num (p.drop 28)) else none
open Classical in
noncomputable def place (t : Term) : List Term → Option Nat
  | [] => none
  | x :: r => if x = t then some 0 else (place t r).map (· + 1)
structure Box where
  sym : Bool
  full : Bool
  L : List Term
def noughts : List UInt8 := List.replicate 32 0
open Classical in
noncomputable def Box.tag (b : Box) (t : Term) : List UInt8 × Box := match place t b.L with
  | some i => (handle (i + 1), b)
  | none => if 4096 ≤ b.L.length then (noughts, { b with full := true }) else (handle (b.L.length + 1), { b with L := b.L ++ [t] })
def xorB (a b : List UInt8) : List UInt8 := List.zipWith (· ^^^ ·) a b
def Box.opens (b : Box) (tag : List UInt8) : Option (List Nat × List UInt8) :=
  if tag.length = 32 then
    if b.sym = true ∧ tag.take 28 = front then
      if num (tag.drop 28) < 1 ∨ b.L.length < num (tag.drop 28) then none
      else match b.L[num (tag.drop 28) - 1]? with
        | some t => if t.kind = 4 then some (t.list, t.mask) else some ([num (tag.drop 28)], noughts)
        | none => none
    else some ([], tag)
  else none
end Go.Proofs.YtloeaiafphkjnaaGreatDoor.Bx

namespace Go.Proofs.YtloeaiafphkjnaaGreatDoor.Sx
open Go
attribute [local irreducible] Calls
theorem shr_nat (n k : Nat) : (n : Int).fdiv (2 ^ k) = ((n / 2 ^ k : Nat) : Int) := by
  have : (2 ^ k : Int) = ((2 ^ k : Nat) : Int) := by push_cast; rfl
  rw [this, Int.fdiv_eq_ediv_of_nonneg _ (Int.natCast_nonneg _)]
  exact (Int.natCast_ediv _ _).symm
def dgs : List UInt8 := [48, 49, 50, 51, 52, 53, 54, 55, 56, 57, 97, 98, 99, 100, 101, 102]
def hex2 (x : UInt8) : List UInt8 := [dgs.getD (x.toNat / 16) 0, dgs.getD (x.toNat % 16) 0]
def hexB (l : List UInt8) : List UInt8 := l.flatMap hex2
theorem hexB_len (l : List UInt8) : (hexB l).length = 2 * l.length := by
  induction l with
  | nil => rfl
  | cons x r ih => simp only [hexB, List.flatMap_cons, List.length_append, List.length_cons] at ih ⊢; rw [ih]; simp [hex2]; omega
theorem hexB_snoc (l : List UInt8) (x : UInt8) : hexB (l ++ [x]) = hexB l ++ [dgs.getD (x.toNat / 16) 0] ++ [dgs.getD (x.toNat % 16) 0] := by simp [hexB, hex2]
theorem dgs_at {k : Nat} (h : k < 16) : dgs[k]? = some (dgs.getD k 0) := by
  have hk : k < dgs.length := h
  simp [hk]
theorem and15 (x : UInt8) : bits .and .u8 (x.toNat : Int) 15 = ((x.toNat % 16 : Nat) : Int) := by
  show IntKind.u8.wrap (((BitVec.ofInt 8 (x.toNat : Int)) &&& (BitVec.ofInt 8 15)).toNat : Int) = _
  have h1 : BitVec.ofInt 8 (x.toNat : Int) = x.toBitVec := by
    apply BitVec.eq_of_toNat_eq
    rw [BitVec.toNat_ofInt]
    have := x.toNat_lt
    have e : x.toBitVec.toNat = x.toNat := rfl
    rw [e]
    omega
  have h2 : (BitVec.ofInt 8 15).toNat = 2 ^ 4 - 1 := by decide
  rw [h1, BitVec.toNat_and, h2, Nat.and_two_pow_sub_one_eq_mod, wrap_u8]
  have e : x.toBitVec.toNat = x.toNat := rfl
  rw [e]
  omega
structure HxS where
  k : Nat
  p : Value
  A : Option Addr
  c : Nat
theorem hex_c (w : World) (A : Option Addr) (l : List UInt8) (c : Nat) (hr : Bs w A l) (hne : l ≠ []) (hn : l.length ≤ 1000000) : Pu Tryz.prog n_b64_Hex #[.slice A l.length c] w (.string ⟨(hexB l).toArray⟩) := by
  have g := good_b64_Hex w (Un [])
  have hl0 : 0 < l.length := List.length_pos_iff.2 hne
  refine con_of_sx (cx := cx_b64_Hex w (Un [])) g b_b64_Hex rfl rfl (β := Va.z) [.c (.v (.slice A l.length c))] 0 [] [bsF A l] rfl rfl ((Sat.start rfl).rd (fun _ h => by cases h) hr) ?_
  refine reify_rule g 0 (fun _ => [.pointer none, .slice none 0 0]) rfl rfl (fun _ => rfl) (fun b => ?_)
  refine loop_rule 1 (fun i : HxS => [(6, .c (.v (.slice A l.length c))), (7, .c (.v (.int .i64 l.length))), (8, .c (.v (.int .i64 i.k))), (3, .c (.v (selfV b)))]) (fun _ => []) (fun i => bldF b i.p i.A (hexB (l.take i.k)) i.c ++ [bsF A l])
    (fun i => i.k ≤ l.length ∧ (i.p = .pointer none ∨ i.p = selfV b)) (fun i => l.length - i.k) ⟨0, .pointer none, none, 0⟩ ⟨Nat.zero_le _, .inl rfl⟩ (Ent.mk' ⟨rfl, rfl, rfl, rfl, trivial⟩ rfl ?_) g ?_
  · intro β w' hs
    exact (hs.nilRow ty_uint8 1).perm [1, 0, 2]
  rintro ⟨k, p, A1, c1⟩ ⟨hk, hp⟩
  simp only at hk hp
  have hx0 := hexB_len (l.take k)
  have htl : (l.take k).length ≤ l.length := by simp; omega
  refine BIf.dec (fun hlt => ?_) (fun hge => ?_)
  · have hlt0 : (k : Int) < l.length := hlt
    have hlt : k < l.length := by omega
    obtain ⟨ad, hA⟩ := Bs.addr hr (by omega)
    have hb := l[k].toNat_lt
    refine ⟨ad, k, hA, rfl, hlt, byte l[k], fun β w hs => Bs.cell (hs.get 2 rfl) hA hlt, ?_⟩
    refine ⟨by decide, ((l[k].toNat / 16 : Nat) : Int), shr_nat _ 4, ?_⟩
    refine ⟨l[k].toNat / 16, _, rfl, dgs_at (by omega), ?_⟩
    refine call_con [0, 1] (fun β w' hs => writeByte_c w' b p A1 (hexB (l.take k)) c1 _ hp (by omega) (hs.mem.take (js := [0, 1]) rfl)) ?_
    rintro v Fs ⟨rfl, A2, c2, rfl⟩
    refine ⟨_, and15 l[k], ?_⟩
    refine ⟨l[k].toNat % 16, _, rfl, dgs_at (by omega), ?_⟩
    refine call_con [0, 1] (fun β w' hs => writeByte_c w' b (selfV b) A2 _ c2 _ (.inr rfl) (by simp only [List.length_append, List.length_cons, List.length_nil]; omega) (hs.mem.take (js := [0, 1]) rfl)) ?_
    rintro v Fs ⟨rfl, A3, c3, rfl⟩
    refine ⟨((k + 1 : Nat) : Int), by rw [wrap_i64 (by omega) (by omega)]; rfl, ?_⟩
    refine ⟨⟨k + 1, selfV b, A3, c3⟩, ⟨hlt, .inr rfl⟩, by show l.length - (k + 1) < l.length - k; omega, ?_⟩
    have e : hexB (l.take (k + 1)) = hexB (l.take k) ++ [dgs.getD (l[k].toNat / 16) 0] ++ [dgs.getD (l[k].toNat % 16) 0] := by rw [take_snoc l k hlt, hexB_snoc]
    refine Ent.mk' ⟨rfl, rfl, rfl, rfl, trivial⟩ rfl ?_
    intro β w' hs
    show Sat _ _ _ _ (bldF b (selfV b) A3 (hexB (l.take (k + 1))) c3 ++ [bsF A l]) _
    rw [e]
    exact hs
  · have hge0 : ¬ (k : Int) < l.length := hge
    have hke : k = l.length := by omega
    subst hke
    have hn2 : hexB (l.take l.length) ≠ [] := by
      intro q
      have := congrArg List.length q
      rw [hx0] at this
      simp at this
      omega
    refine call_con [0, 1] (fun β w' hs => text_c w' b p A1 _ c1 hn2 (hs.mem.take (js := [0, 1]) rfl)) ?_
    rintro v Fs ⟨rfl, rfl⟩
    intro β w' hs
    refine hs.fin [] ⟨?_, rfl⟩
    rw [List.take_length]
    rfl
end Go.Proofs.YtloeaiafphkjnaaGreatDoor.Sx

namespace Go.Proofs.YtloeaiafphkjnaaGreatDoor.Sx
open Go Sha
attribute [local irreducible] Calls
theorem rotl_c (w : World) (x : UInt32) (n : Nat) (h1 : 1 ≤ n) (h2 : n < 32) : Pu Tryz.prog n_math_bits_RotateLeft32 #[u32 x, .int .i64 (-(n : Int))] w (u32 (rotr x n)) := by
  refine pu_of (calls_of_sx (cx := cx_math_bits_RotateLeft32 w None_) (good_math_bits_RotateLeft32 w None_) b_math_bits_RotateLeft32 rfl rfl (β := Va.z) [.c (.v (u32 x)), .c (.v (.int .i64 (-(n : Int))))] 0 [] [] rfl rfl (Sat.start rfl) ?_)
  refine ⟨_, rfl, ?_⟩
  refine ⟨((32 - n : Nat) : Int), ?_, ?_⟩
  · have : ∀ n : _root_.Fin 32, 1 ≤ n.val → bits .and .u64 (IntKind.u64.wrap (-(n.val : Int))) 31 = ((32 - n.val : Nat) : Int) := by decide
    exact this ⟨n, h2⟩ h1
  refine ⟨by omega, _, shl32 x (32 - n) (by omega), ?_⟩
  refine ⟨(n : Int), by show IntKind.u64.wrap _ = _; simp only [IntKind.wrap, IntKind.bits, IntKind.signed]; simp; omega, ?_⟩
  refine ⟨by omega, _, shr32 x n h2, ?_⟩
  refine ⟨_, or32 _ _, ?_⟩
  intro β w' hs
  refine ⟨?_, hs.chg⟩
  rw [← rotl_eq]
  rfl
theorem turn_c (w : World) (x : UInt32) (n : Nat) (h1 : 1 ≤ n) (h2 : n < 32) : Pu Tryz.prog n_ostiaryref01_turn #[u32 x, .int .u64 (n : Int)] w (u32 (rotr x n)) := by
  refine pu_of (calls_of_sx (cx := cx_ostiaryref01_turn w None_) (good_ostiaryref01_turn w None_) b_ostiaryref01_turn rfl rfl (β := Va.z) [.c (.v (u32 x)), .c (.v (.int .u64 (n : Int)))] 0 [] [] rfl rfl (Sat.start rfl) ?_)
  refine ⟨by omega, _, shr32 x n h2, ?_⟩
  refine ⟨((32 - n : Nat) : Int), by show IntKind.u64.wrap _ = _; simp only [IntKind.wrap, IntKind.bits, IntKind.signed]; simp; omega, ?_⟩
  refine ⟨by omega, _, shl32 x (32 - n) (by omega), ?_⟩
  refine ⟨_, or32 _ _, ?_⟩
  intro β w' hs
  exact ⟨rfl, hs.chg⟩
theorem or_add {x y k : Nat} (h : y < 2 ^ k) : 2 ^ k * x ||| y = 2 ^ k * x + y := (Nat.two_pow_add_eq_or_of_lt h x).symm
theorem word_or (a b c d : UInt8) : ((UInt32.ofNat a.toNat <<< UInt32.ofNat 24 ||| UInt32.ofNat b.toNat <<< UInt32.ofNat 16) ||| UInt32.ofNat c.toNat <<< UInt32.ofNat 8) ||| UInt32.ofNat d.toNat = word a b c d := by
  apply UInt32.toNat_inj.1
  have h1 := a.toNat_lt
  have h2 := b.toNat_lt
  have h3 := c.toNat_lt
  have h4 := d.toNat_lt
  have sh : ∀ (x : UInt8) (n : Nat), n ≤ 24 → (UInt32.ofNat x.toNat <<< UInt32.ofNat n).toNat = 2 ^ n * x.toNat := by
    intro x n hn
    have hx := x.toNat_lt
    rw [UInt32.toNat_shiftLeft, UInt32.toNat_ofNat', UInt32.toNat_ofNat', Nat.mod_eq_of_lt (show n < 2 ^ 32 by omega), Nat.mod_eq_of_lt (show n < 32 by omega), Nat.shiftLeft_eq, Nat.mod_eq_of_lt (show x.toNat < 2 ^ 32 by omega), Nat.mul_comm]
    refine Nat.mod_eq_of_lt ?_
    have : 2 ^ n ≤ 2 ^ 24 := Nat.pow_le_pow_right (by omega) hn
    calc 2 ^ n * x.toNat ≤ 2 ^ 24 * x.toNat := Nat.mul_le_mul_right _ this
      _ < 2 ^ 32 := by omega
  unfold word
  simp only [UInt32.toNat_or, sh a 24 (by omega), sh b 16 (by omega), sh c 8 (by omega), UInt32.toNat_ofNat']
  rw [Nat.mod_eq_of_lt (show d.toNat < 2 ^ 32 by omega)]
  rw [or_add (show 2 ^ 16 * b.toNat < 2 ^ 24 by omega)]
  rw [show 2 ^ 24 * a.toNat + 2 ^ 16 * b.toNat = 2 ^ 16 * (256 * a.toNat + b.toNat) by omega, or_add (show 2 ^ 8 * c.toNat < 2 ^ 16 by omega)]
  rw [show 2 ^ 16 * (256 * a.toNat + b.toNat) + 2 ^ 8 * c.toNat = 2 ^ 8 * (256 * (256 * a.toNat + b.toNat) + c.toNat) by omega, or_add (show d.toNat < 2 ^ 8 by omega)]
  omega
theorem word_c (w : World) (A : Option Addr) (l : List UInt8) (c : Nat) (hr : Bs w A l) (x y z u : UInt8) (h0 : l[0]? = some x) (h1 : l[1]? = some y) (h2 : l[2]? = some z) (h3 : l[3]? = some u) :
    Pu Tryz.prog n_sha_word #[.slice A l.length c] w (u32 (word x y z u)) := by
  obtain ⟨k0, e0⟩ := List.getElem?_eq_some_iff.1 h0
  obtain ⟨k1, e1⟩ := List.getElem?_eq_some_iff.1 h1
  obtain ⟨k2, e2⟩ := List.getElem?_eq_some_iff.1 h2
  obtain ⟨k3, e3⟩ := List.getElem?_eq_some_iff.1 h3
  have g := good_sha_word w None_
  obtain ⟨ad, hA⟩ := Bs.addr hr (by omega)
  have cv : ∀ b : UInt8, IntKind.u32.wrap (b.toNat : Int) = ((UInt32.ofNat b.toNat).toNat : Int) := fun b => wrap32_nat _
  refine pu_of (calls_of_sx (cx := cx_sha_word w None_) g b_sha_word rfl rfl (β := Va.z) [.c (.v (.slice A l.length c))] 0 [] [bsF A l] rfl rfl ((Sat.start rfl).rd (fun _ h => by cases h) hr) ?_)
  refine draw_rule g p_sha_word_1 (by kernel_rfl) _ _ Sub.refl ?_
  refine ⟨ad, 0, hA, rfl, k0, byte x, fun β w hs => by rw [← e0]; exact Bs.cell (hs.get 0 rfl : Bs w A _) hA (j := 0) k0, ?_⟩
  refine ⟨_, cv x, by omega, _, shl32 (UInt32.ofNat x.toNat) 24 (by omega), ?_⟩
  refine ⟨ad, 1, hA, rfl, k1, byte y, fun β w hs => by rw [← e1]; exact Bs.cell (hs.get 0 rfl : Bs w A _) hA (j := 1) k1, ?_⟩
  refine ⟨_, cv y, by omega, _, shl32 (UInt32.ofNat y.toNat) 16 (by omega), ?_⟩
  refine ⟨_, or32 _ _, ?_⟩
  refine ⟨ad, 2, hA, rfl, k2, byte z, fun β w hs => by rw [← e2]; exact Bs.cell (hs.get 0 rfl : Bs w A _) hA (j := 2) k2, ?_⟩
  refine ⟨_, cv z, by omega, _, shl32 (UInt32.ofNat z.toNat) 8 (by omega), ?_⟩
  refine ⟨_, or32 _ _, ?_⟩
  refine ⟨ad, 3, hA, rfl, k3, byte u, fun β w hs => by rw [← e3]; exact Bs.cell (hs.get 0 rfl : Bs w A _) hA (j := 3) k3, ?_⟩
  refine ⟨_, cv u, _, or32 _ _, ?_⟩
  intro β w' hs
  refine ⟨?_, hs.chg⟩
  rw [← word_or]
  rfl
def sl32 (x : UInt32) : SL := .v (u32 x)
def arr (n : Nat) (ws : List UInt32) : List SL := (ws ++ List.replicate (n - ws.length) 0).map sl32
theorem arr_len {n : Nat} {ws : List UInt32} (h : ws.length ≤ n) : (arr n ws).length = n := by simp [arr]; omega
theorem arr_get {n : Nat} {ws : List UInt32} {i : Nat} (h : i < ws.length) : (arr n ws)[i]? = some (sl32 (ws.getD i 0)) := by
  simp only [arr, List.getElem?_map]
  rw [List.getElem?_append_left h, List.getElem?_eq_getElem h]
  simp [List.getD, List.getElem?_eq_getElem h]
theorem arr_set {n : Nat} {ws : List UInt32} (h : ws.length < n) (x : UInt32) : (arr n ws).set ws.length (sl32 x) = arr n (ws ++ [x]) := by
  obtain ⟨k, rfl⟩ : ∃ k, n = ws.length + (k + 1) := ⟨n - ws.length - 1, by omega⟩
  simp only [arr, List.length_append, List.length_cons, List.length_nil]
  rw [show ws.length + (k + 1) - ws.length = k + 1 by omega, show ws.length + (k + 1) - (ws.length + (0 + 1)) = k by omega, List.replicate_succ]
  simp
theorem arr_full {n : Nat} {ws : List UInt32} (h : ws.length = n) : arr n ws = ws.map sl32 := by simp [arr, h]
theorem arr_one (ws : List UInt32) : allOne (ws.map sl32) = true := allOne_of fun x hx => by obtain ⟨y, _, rfl⟩ := List.mem_map.1 hx; rfl
theorem arr_val (β : Va) (ws : List UInt32) : (ws.map sl32).map (SL.val β) = ws.map u32 := by rw [List.map_map]; rfl
theorem getD_drop (l : List UInt8) (i j : Nat) (h : i + j < l.length) : (l.drop i)[j]? = some (l.getD (i + j) 0) := by
  rw [List.getElem?_drop, List.getElem?_eq_getElem h]
  simp [List.getD, List.getElem?_eq_getElem h]
theorem spread_c (w : World) (A : Option Addr) (l : List UInt8) (c : Nat) (hr : Bs w A l) (hc : l.length ≤ c) (hl : 64 ≤ l.length) (hm : c ≤ maxLen) :
    Pu Tryz.prog n_sha_spread #[.slice A l.length c] w (.agg ((W l).map u32).toArray) := by
  obtain ⟨ws, hws⟩ : ∃ ws, W l = ws := ⟨_, rfl⟩
  have hwl : ws.length = 64 := by rw [← hws]; exact W_len l
  rw [hws]
  have g := good_sha_spread w None_
  refine pu_of (calls_of_sx (cx := cx_sha_spread w None_) g b_sha_spread rfl rfl (β := Va.z) [.c (.v (.slice A l.length c))] 0 [] [bsF A l] rfl rfl ((Sat.start rfl).rd (fun _ h => by cases h) hr) ?_)
  have e0 : arr 64 [] = ti212.zero.map SL.v := by simp only [arr, List.nil_append, List.length_nil, List.map_replicate]; rfl
  refine loop_rule (ι := Nat) 2 (fun i => [(0, .c (.v (.slice A l.length c))), (2, .c (.p 0 0)), (3, .c (.p 1 0)), (10, .c (.v (.int .i64 i)))]) (fun i => [⟨1, 212, arr 64 (sched l i)⟩, ⟨0, 212, arr 64 []⟩]) (fun _ => [bsF A l])
    (fun i => i ≤ 16) (fun i => 16 - i) 0 (Nat.zero_le _) (Ent.mk' ⟨rfl, rfl, rfl, rfl, trivial⟩ rfl (fun β w' hs => by rw [show sched l 0 = [] from rfl, e0]; exact hs)) g ?_
  intro i hi
  refine BIf.dec (fun hlt => ?_) (fun hge => ?_)
  · have hlt : i < 16 := by omega
    rw [maxLen_eq] at hm
    refine ⟨((4 * i : Nat) : Int), by rw [wrap_i64 (by omega) (by omega)]; omega, ?_⟩
    refine ⟨c, l.length, 4 * i, (l.drop (4 * i)).length, c - 4 * i, _, rfl, rfl, rfl, Nat.le_refl _, hc, by omega, by rw [List.length_drop], rfl, rfl, ?_⟩
    refine call_pu (fun β w' hs => word_c w' _ (l.drop (4 * i)) _ (Bs.cutB (hs.get 0 rfl : Bs w' A l) (j := l.length) hc (by omega) (Nat.le_refl _) (by rw [List.take_of_length_le (by simp)])) _ _ _ _
      (getD_drop l (4 * i) 0 (by omega)) (getD_drop l (4 * i) 1 (by omega)) (getD_drop l (4 * i) 2 (by omega)) (getD_drop l (4 * i) 3 (by omega))) ?_
    refine ⟨i, rfl, by omega, ?_⟩
    have hsl : (sched l i).length = i := sched_len l i
    refine m_true (b := Nat.ble (0 + i * 1 + 1) (arr 64 (sched l i)).length) (by rw [arr_len (by omega), Nat.ble_eq]; omega) ?_
    refine ⟨((i + 1 : Nat) : Int), by rw [wrap_i64 (by omega) (by omega)]; rfl, ?_⟩
    refine ⟨i + 1, by omega, by omega, Ent.mk' ⟨rfl, rfl, rfl, rfl, trivial⟩ rfl (fun β w' hs => ?_)⟩
    have e1 : putAll (arr 64 (sched l i)) (0 + i * 1) [sl32 (wordAt l i)] = arr 64 (sched l (i + 1)) := by
      rw [putAll, putAll, putAt_eq, Nat.zero_add, Nat.mul_one]
      have := arr_set (n := 64) (ws := sched l i) (by omega) (wordAt l i)
      rw [hsl] at this
      rw [this, sched, if_pos hlt]
    rw [← e1]
    exact hs
  · obtain rfl : i = 16 := by omega
    rw [maxLen_eq] at hm
    refine loop_rule (ι := Nat) 2 (fun i => [(0, .c (.v (.slice A l.length c))), (2, .c (.p 0 0)), (3, .c (.p 1 0)), (5, .c (.v (.int .i64 i)))]) (fun i => [⟨1, 212, arr 64 (sched l i)⟩, ⟨0, 212, arr 64 []⟩]) (fun _ => [bsF A l])
      (fun i => 16 ≤ i ∧ i ≤ 64) (fun i => 64 - i) 16 ⟨by omega, by omega⟩ (Ent.same ⟨rfl, rfl, rfl, rfl, trivial⟩ rfl) g ?_
    rintro i ⟨hi1, hi2⟩
    refine BIf.dec (fun hlt => ?_) (fun hge => ?_)
    · have hlt : i < 64 := by omega
      have hsl : (sched l i).length = i := sched_len l i
      have ld : ∀ {k : Nat}, k < i → nth (arr 64 (sched l i)) (0 + k * 1) = some (sl32 ((sched l i).getD k 0)) := fun {k} hk => by
        rw [nth_eq, Nat.zero_add, Nat.mul_one]; exact arr_get (by omega)
      refine draw_rule g p_sha_spread_10 (by kernel_rfl) _ _ Sub.refl ?_
      refine ⟨((i - 15 : Nat) : Int), by rw [wrap_i64 (by omega) (by omega)]; omega, i - 15, rfl, by omega, ?_⟩
      conv => whnf
      generalize hn : nth _ _ = o
      obtain rfl : o = some (sl32 ((sched l i).getD (i - 15) 0)) := hn.symm.trans (ld (by omega))
      clear hn
      refine ⟨((i - 2 : Nat) : Int), by rw [wrap_i64 (by omega) (by omega)]; omega, i - 2, rfl, by omega, ?_⟩
      conv => whnf
      generalize hn : nth _ _ = o
      obtain rfl : o = some (sl32 ((sched l i).getD (i - 2) 0)) := hn.symm.trans (ld (by omega))
      clear hn
      obtain ⟨xa, hxa⟩ : ∃ xa, (sched l i).getD (i - 15) 0 = xa := ⟨_, rfl⟩
      obtain ⟨xb, hxb⟩ : ∃ xb, (sched l i).getD (i - 2) 0 = xb := ⟨_, rfl⟩
      rw [hxa, hxb]
      refine call_pu (fun β w' hs => rotl_c w' xa 7 (by omega) (by omega)) ?_
      refine call_pu (fun β w' hs => rotl_c w' xa 18 (by omega) (by omega)) ?_
      refine ⟨_, xor32 _ _, by omega, _, shr32 xa 3 (by omega), _, xor32 _ _, ?_⟩
      refine call_pu (fun β w' hs => rotl_c w' xb 17 (by omega) (by omega)) ?_
      refine call_pu (fun β w' hs => rotl_c w' xb 19 (by omega) (by omega)) ?_
      refine ⟨_, xor32 _ _, by omega, _, shr32 xb 10 (by omega), _, xor32 _ _, ?_⟩
      refine draw_rule g p_sha_spread_13 (by kernel_rfl) _ _ Sub.refl ?_
      refine ⟨((i - 16 : Nat) : Int), by rw [wrap_i64 (by omega) (by omega)]; omega, i - 16, rfl, by omega, ?_⟩
      conv => whnf
      generalize hn : nth _ _ = o
      obtain rfl : o = some (sl32 ((sched l i).getD (i - 16) 0)) := hn.symm.trans (ld (by omega))
      clear hn
      refine ⟨_, add32 _ _, ?_⟩
      refine ⟨((i - 7 : Nat) : Int), by rw [wrap_i64 (by omega) (by omega)]; omega, i - 7, rfl, by omega, ?_⟩
      conv => whnf
      generalize hn : nth _ _ = o
      obtain rfl : o = some (sl32 ((sched l i).getD (i - 7) 0)) := hn.symm.trans (ld (by omega))
      clear hn
      refine ⟨_, add32 _ _, _, add32 _ _, i, rfl, by omega, ?_⟩
      refine m_true (b := Nat.ble (0 + i * 1 + 1) (arr 64 (sched l i)).length) (by rw [arr_len (by omega), Nat.ble_eq]; omega) ?_
      refine ⟨((i + 1 : Nat) : Int), by rw [wrap_i64 (by omega) (by omega)]; rfl, ?_⟩
      refine ⟨i + 1, ⟨by omega, by omega⟩, by omega, Ent.mk' ⟨rfl, rfl, rfl, rfl, trivial⟩ rfl (fun β w' hs => ?_)⟩
      have e1 : putAll (arr 64 (sched l i)) (0 + i * 1) [sl32 ((sched l i).getD (i - 16) 0 + s0 xa + (sched l i).getD (i - 7) 0 + s1 xb)] = arr 64 (sched l (i + 1)) := by
        rw [putAll, putAll, putAt_eq, Nat.zero_add, Nat.mul_one]
        have := arr_set (n := 64) (ws := sched l i) (by omega) ((sched l i).getD (i - 16) 0 + s0 xa + (sched l i).getD (i - 7) 0 + s1 xb)
        rw [hsl] at this
        rw [this, sched, if_neg (by omega), nxt, hxa, hxb]
      rw [← e1]
      exact hs
    · have hi64 : i = 64 := by omega
      have e2 : arr 64 (sched l i) = ws.map sl32 := by
        rw [← hws, hi64]
        exact arr_full (sched_len l 64)
      clear hi64 hi1 hi2 hge
      rw [e2]
      conv => whnf
      generalize hn : takeAt _ _ _ = o
      obtain rfl : o = some (ws.map sl32) := hn.symm.trans (takeAt_all (by rw [List.length_map, hwl]; rfl))
      clear hn
      conv => whnf
      generalize h1 : Nat.beq _ _ = b1
      generalize h2 : allOne _ = b2
      obtain rfl : b1 = true := h1.symm.trans (by rw [List.length_map, hwl]; rfl)
      obtain rfl : b2 = true := h2.symm.trans (arr_one ws)
      clear h1 h2
      conv => whnf
      generalize h1 : Nat.ble _ _ = b1
      obtain rfl : b1 = true := h1.symm.trans (by rw [List.length_map, hwl]; rfl)
      clear h1
      conv => whnf
      generalize hn : resOf _ _ _ _ = o
      obtain rfl : o = some [.agg (ws.map sl32)] := hn.symm.trans (by
        have hp : putAll (arr 64 []) 0 (ws.map sl32) = ws.map sl32 := putAll_full (by rw [List.length_map, hwl]; rfl)
        show (match takeAt (putAll (arr 64 []) 0 (ws.map sl32)) 0 64 with | some xs => some [SV.agg xs] | none => none) = _
        rw [hp, takeAt_all (by rw [List.length_map, hwl])])
      clear hn
      intro β w' hs
      refine ⟨?_, hs.chg⟩
      show Value.agg ((ws.map sl32).map (SL.val β)).toArray = _
      rw [arr_val]
def oddF (g : Nat) : Fact := rdF 1 (some ⟨g, 0, none⟩) 64 (K.map u32)
def stF (b ty : Nat) (s : S8) : Fact := bkF b ty (s.l.map u32)
theorem rounds_succ (s : S8) (w : List UInt32) (n : Nat) : rounds s w (n + 1) = (rounds s w n).round (K.getD n 0) (w.getD n 0) := rfl
theorem K_len : K.length = 64 := rfl
theorem odd_cell {g : Nat} {w : World} (h : (oddF g).p w) {i : Nat} (hi : i < 64) : w.cell? ((⟨g, 0, none⟩ : Addr).add (i * 1)) = some (u32 (K.getD i 0)) := by
  obtain ⟨_, h2⟩ := h
  obtain ⟨ad, q, hc⟩ := h2 (by omega)
  obtain rfl := Option.some.inj q
  rw [Nat.mul_one]
  refine hc i _ ?_
  rw [List.getElem?_map, List.getElem?_eq_getElem (by rw [K_len]; exact hi)]
  simp [List.getD, List.getElem?_eq_getElem (show i < K.length by rw [K_len]; exact hi)]
def mix (s t : S8) (i : Nat) : List SL := ((s.add t).l.take i ++ s.l.drop i).map sl32
theorem mix_len (s t : S8) : ∀ i, i < 9 → (mix s t i).length = 8
  | 0, _ => rfl | 1, _ => rfl | 2, _ => rfl | 3, _ => rfl | 4, _ => rfl | 5, _ => rfl | 6, _ => rfl | 7, _ => rfl | 8, _ => rfl
  | n + 9, h => by omega
theorem mix_get (s t : S8) : ∀ i, i < 8 → nth (mix s t i) i = some (sl32 (s.l.getD i 0))
  | 0, _ => rfl | 1, _ => rfl | 2, _ => rfl | 3, _ => rfl | 4, _ => rfl | 5, _ => rfl | 6, _ => rfl | 7, _ => rfl
  | n + 8, h => by omega
theorem mix_set (s t : S8) : ∀ i, i < 8 → putAll (mix s t i) i [sl32 (s.l.getD i 0 + t.l.getD i 0)] = mix s t (i + 1)
  | 0, _ => rfl | 1, _ => rfl | 2, _ => rfl | 3, _ => rfl | 4, _ => rfl | 5, _ => rfl | 6, _ => rfl | 7, _ => rfl
  | n + 8, h => by omega
theorem l_get (t : S8) : ∀ i, i < 8 → (t.l.map sl32)[i]? = some (sl32 (t.l.getD i 0))
  | 0, _ => rfl | 1, _ => rfl | 2, _ => rfl | 3, _ => rfl | 4, _ => rfl | 5, _ => rfl | 6, _ => rfl | 7, _ => rfl
  | n + 8, h => by omega
theorem step_c (w : World) (b ty : Nat) (s : S8) (A : Option Addr) (l : List UInt8) (c : Nat) (hm : Mem w [stF b ty s, bsF A l, oddF 2]) (hc : l.length ≤ c) (hl : 64 ≤ l.length) (hcm : c ≤ maxLen) :
    Con Tryz.prog n_sha_state_step #[.pointer (some ⟨b, 0, none⟩), .slice A l.length c] w [stF b ty s] fun v Fs => v = .tuple #[] ∧ Fs = [stF b ty (Sha.step s l)] := by
  obtain ⟨ws, hws⟩ : ∃ ws, W l = ws := ⟨_, rfl⟩
  have hwl : ws.length = 64 := by rw [← hws]; exact W_len l
  have g := good_sha_state_step w (Un [stF b ty s]) (bs := [b])
  have hs0 : Sat (cx_sha_state_step w (Un [stF b ty s]) [b]) (Va.of fun _ => b) 1 [] [stF b ty s, bsF A l, oddF 2] w :=
    hm.sat rfl (ownIn (Gs := [stF b ty s]) (Rs := [bsF A l, oddF 2]) (fun g hg => by
      rcases List.mem_cons.1 hg with rfl | hg
      · rfl
      · obtain rfl := List.mem_singleton.1 hg; rfl)) ⟨Nat.le_refl _, fun i hi => by
        have hi1 : i < 1 := hi
        have hi0 : i = 0 := by omega
        rw [hi0]; rfl⟩
  have hs1 := hs0.toBk 0 rfl 0 Nat.zero_lt_one rfl
  refine con_of_sx (cx := cx_sha_state_step w (Un [stF b ty s]) [b]) g b_sha_state_step rfl rfl (β := Va.of fun _ => b) [.c (.p 0 0), .c (.v (.slice A l.length c))] 1 [⟨0, ty, s.l.map sl32⟩] [bsF A l, oddF 2] rfl rfl (by rw [List.map_map] at hs1; exact hs1) ?_
  refine call_pu (fun β w' hs => spread_c w' A l c (hs.get 0 rfl) hc hl hcm) ?_
  rw [hws]
  have ea : ofValue (.agg (ws.map u32).toArray) = .agg (ws.map sl32) := by simp only [ofValue, List.map_map]; rfl
  rw [ea]
  conv => whnf
  generalize h1 : Nat.beq _ _ = b1
  generalize h2 : allOne _ = b2
  obtain rfl : b1 = true := h1.symm.trans (by rw [List.length_map, hwl]; rfl)
  obtain rfl : b2 = true := h2.symm.trans (arr_one ws)
  clear h1 h2
  conv => whnf
  generalize h1 : Nat.ble _ _ = b1
  obtain rfl : b1 = true := h1.symm.trans (by rw [List.length_map, hwl]; rfl)
  clear h1
  refine draw_rule g p_sha_state_step_1 (by kernel_rfl) _ _ Sub.refl ?_
  refine ⟨0, rfl, by decide, ?_⟩
  refine ⟨1, rfl, by decide, ?_⟩
  refine ⟨2, rfl, by decide, ?_⟩
  refine ⟨3, rfl, by decide, ?_⟩
  refine ⟨4, rfl, by decide, ?_⟩
  refine ⟨5, rfl, by decide, ?_⟩
  refine ⟨6, rfl, by decide, ?_⟩
  refine ⟨7, rfl, by decide, ?_⟩
  have hp : putAll (ti212.zero.map SL.v) 0 (ws.map sl32) = ws.map sl32 := putAll_full (by rw [List.length_map, hwl]; rfl)
  refine loop_rule (ι := Nat) 2 (fun i => [(0, .c (.p 0 0)), (4, .c (.p 1 0)), (5, .c (sl32 (rounds s ws i).a)), (6, .c (sl32 (rounds s ws i).b)), (7, .c (sl32 (rounds s ws i).c)), (8, .c (sl32 (rounds s ws i).d)), (9, .c (sl32 (rounds s ws i).e)), (10, .c (sl32 (rounds s ws i).f)), (11, .c (sl32 (rounds s ws i).g)), (12, .c (sl32 (rounds s ws i).h)), (55, .c (.v (.int .i64 i)))])
    (fun _ => [⟨1, 212, ws.map sl32⟩, ⟨0, ty, s.l.map sl32⟩]) (fun _ => [bsF A l, oddF 2])
    (fun i => i ≤ 64) (fun i => 64 - i) 0 (Nat.zero_le _) (Ent.mk' ⟨rfl, rfl, rfl, rfl, rfl, rfl, rfl, rfl, rfl, rfl, rfl, trivial⟩ rfl (fun β w' hs => by rw [← hp]; exact hs)) g ?_
  intro i hi
  obtain ⟨r, hr⟩ : ∃ r, rounds s ws i = r := ⟨_, rfl⟩
  rw [hr]
  obtain ⟨xa, xb, xc, xd, xe, xf, xg, xh⟩ := r
  refine BIf.dec (fun hlt => ?_) (fun hge => ?_)
  · have hlt : i < 64 := by omega
    refine call_pu (fun β w' hs => rotl_c w' xe 6 (by omega) (by omega)) ?_
    refine call_pu (fun β w' hs => rotl_c w' xe 11 (by omega) (by omega)) ?_
    refine ⟨_, xor32 _ _, ?_⟩
    refine call_pu (fun β w' hs => rotl_c w' xe 25 (by omega) (by omega)) ?_
    refine ⟨_, xor32 _ _, ?_⟩
    refine ⟨_, and32 _ _, _, not32 _, _, and32 _ _, _, xor32 _ _, ?_⟩
    refine draw_rule g p_sha_state_step_7 (by kernel_rfl) _ _ Sub.refl ?_
    refine ⟨_, add32 _ _, _, add32 _ _, i, rfl, hlt, u32 (K.getD i 0), fun β w' hs => odd_cell (hs.get 1 rfl) hlt, _, add32 _ _, i, rfl, hlt, ?_⟩
    conv => whnf
    generalize hn : nth _ _ = o
    obtain rfl : o = some (sl32 (ws.getD i 0)) := hn.symm.trans (by
      show nth (ws.map sl32) (0 + i * 1) = _
      rw [nth_eq, Nat.zero_add, Nat.mul_one, List.getElem?_map, List.getElem?_eq_getElem (by omega)]
      simp [List.getD, List.getElem?_eq_getElem (show i < ws.length by omega)])
    clear hn
    refine ⟨_, add32 _ _, ?_⟩
    refine call_pu (fun β w' hs => rotl_c w' xa 2 (by omega) (by omega)) ?_
    refine call_pu (fun β w' hs => rotl_c w' xa 13 (by omega) (by omega)) ?_
    refine ⟨_, xor32 _ _, ?_⟩
    refine call_pu (fun β w' hs => rotl_c w' xa 22 (by omega) (by omega)) ?_
    refine ⟨_, xor32 _ _, ?_⟩
    refine ⟨_, and32 _ _, _, and32 _ _, _, xor32 _ _, _, and32 _ _, _, xor32 _ _, ?_⟩
    refine ⟨_, add32 _ _, _, add32 _ _, _, add32 _ _, ?_⟩
    refine ⟨((i + 1 : Nat) : Int), by rw [wrap_i64 (by omega) (by omega)]; rfl, ?_⟩
    refine ⟨i + 1, by omega, by omega, Ent.same ?_ rfl⟩
    rw [rounds_succ, hr]
    exact ⟨rfl, rfl, rfl, rfl, rfl, rfl, rfl, rfl, rfl, rfl, rfl, trivial⟩
  · obtain ⟨t, ht⟩ : ∃ t, (⟨xa, xb, xc, xd, xe, xf, xg, xh⟩ : S8) = t := ⟨_, rfl⟩
    have hst : Sha.step s l = s.add t := by
      have : i = 64 := by omega
      rw [Sha.step, hws, ← ht, ← hr, this]
    rw [hst]
    refine loop_rule (ι := Nat) 2 (fun i => [(0, .c (.p 0 0)), (129, .agg [sl32 xa, sl32 xb, sl32 xc, sl32 xd, sl32 xe, sl32 xf, sl32 xg, sl32 xh]), (130, .c (.v (.int .i64 i)))])
      (fun i => [⟨1, 212, ws.map sl32⟩, ⟨0, ty, mix s t i⟩]) (fun _ => [bsF A l, oddF 2])
      (fun i => i ≤ 8) (fun i => 8 - i) 0 (Nat.zero_le _) (Ent.same ⟨rfl, rfl, rfl, trivial⟩ rfl) g ?_
    intro j hj
    refine BIf.dec (fun hlt => ?_) (fun hge => ?_)
    · have hlt : j < 8 := by omega
      refine ⟨j, sl32 (t.l.getD j 0), rfl, hlt, by rw [← ht]; show ((⟨xa, xb, xc, xd, xe, xf, xg, xh⟩ : S8).l.map sl32)[j * 1]? = _; rw [Nat.mul_one]; exact l_get _ j hlt, ?_⟩
      refine draw_rule g p_sha_state_step_15 (by kernel_rfl) [] [bsF A l, oddF 2] (Sub.of (List.nil_sublist _) (List.Sublist.refl _)) ?_
      refine ⟨j, rfl, hlt, ?_⟩
      conv => whnf
      generalize hn : nth _ _ = o
      obtain rfl : o = some (sl32 (s.l.getD j 0)) := hn.symm.trans (by
        show nth (mix s t j) (0 + j * 1) = _
        rw [Nat.zero_add, Nat.mul_one]
        exact mix_get s t j hlt)
      clear hn
      refine ⟨Sub.of (List.nil_sublist _) (List.Sublist.refl _), _, add32 _ _, j, rfl, hlt, ?_⟩
      conv => whnf
      generalize h1 : Nat.ble _ _ = b1
      obtain rfl : b1 = true := h1.symm.trans (by
        show Nat.ble (0 + j * 1 + 1) (mix s t j).length = true
        rw [mix_len s t j (by omega), Nat.ble_eq]; omega)
      clear h1
      refine ⟨Sub.of (List.nil_sublist _) (List.Sublist.refl _), ?_⟩
      refine ⟨((j + 1 : Nat) : Int), by rw [wrap_i64 (by omega) (by omega)]; rfl, ?_⟩
      refine ⟨j + 1, by omega, by omega, Ent.mk' ⟨rfl, rfl, rfl, trivial⟩ rfl (fun β w' hs => ?_)⟩
      have e1 := mix_set s t j hlt
      rw [← e1]
      have e3 : 0 + j * 1 = j := by omega
      have hs2 : Sat (cx_sha_state_step w (Un [stF b ty s]) [b]) β 2 [⟨1, 212, ws.map sl32⟩, ⟨0, ty, putAll (mix s t j) (0 + j * 1) [sl32 (s.l.getD j 0 + t.l.getD j 0)]⟩] [bsF A l, oddF 2] w' := hs
      rw [e3] at hs2
      exact hs2
    · obtain rfl : j = 8 := by omega
      intro β w' hs
      have h1 := hs.weaken (List.sublist_cons_self _ _) (List.Sublist.refl _)
      have h2 := h1.ofBk
      have hb : β 0 = b := h2.fix.2 0 (Nat.zero_lt_one)
      refine h2.fin [0] ⟨rfl, ?_⟩
      show [bkF (β 0) ty ((mix s t 8).map (SL.val β))] = [stF b ty (s.add t)]
      rw [hb]
      rfl
theorem u8_of32 (x : UInt32) : IntKind.u8.wrap (x.toNat : Int) = (x.toUInt8.toNat : Int) := by
  rw [show IntKind.u8.wrap (x.toNat : Int) = (x.toNat : Int) % 256 by simp [IntKind.wrap, IntKind.bits, IntKind.signed], UInt32.toNat_toUInt8]
  omega
def outN (s : S8) (i : Nat) : List UInt8 := (s.l.take i).flatMap b4
theorem outN_succ (s : S8) : ∀ i, i < 8 → outN s i ++ b4 (s.l.getD i 0) = outN s (i + 1)
  | 0, _ => rfl | 1, _ => rfl | 2, _ => rfl | 3, _ => rfl | 4, _ => rfl | 5, _ => rfl | 6, _ => rfl | 7, _ => rfl
  | n + 8, h => by omega
theorem stbytes_c (w : World) (b ty : Nat) (s : S8) (hm : Mem w [stF b ty s]) :
    Con Tryz.prog n_sha_state_bytes #[.pointer (some ⟨b, 0, none⟩)] w [stF b ty s] fun v Fs => ∃ A c, v = .slice A 32 c ∧ 32 ≤ c ∧ c ≤ maxLen ∧ Fs = [stF b ty s, browF ty_uint8 A (out s) c] := by
  have g := good_sha_state_bytes w (Un [stF b ty s]) (bs := [b])
  have hs0 : Sat (cx_sha_state_bytes w (Un [stF b ty s]) [b]) (Va.of fun _ => b) 1 [] [stF b ty s] w :=
    hm.sat rfl (ownIn (Gs := [stF b ty s]) (Rs := []) (fun g hg => by cases hg)) ⟨Nat.le_refl _, fun i hi => by
        have hi1 : i < 1 := hi
        have hi0 : i = 0 := by omega
        rw [hi0]; rfl⟩
  have hs1 := hs0.toBk 0 rfl 0 Nat.zero_lt_one rfl
  rw [List.map_map] at hs1
  refine con_of_sx (cx := cx_sha_state_bytes w (Un [stF b ty s]) [b]) g b_sha_state_bytes rfl rfl (β := Va.of fun _ => b) [.c (.p 0 0)] 1 [⟨0, ty, s.l.map sl32⟩] [browF ty_uint8 none [] 0] rfl rfl (hs1.nilRow _ _) ?_
  refine loop_rule (ι := Nat × Option Addr × Nat) 1 (fun i => [(6, .c (.p 0 0)), (7, .c (.v (.int .i64 i.1))), (3, .c (.v (.slice i.2.1 (4 * i.1) i.2.2)))]) (fun _ => [⟨0, ty, s.l.map sl32⟩])
    (fun i => [rowF ty_uint8 1 (.slice i.2.1 (4 * i.1) i.2.2) (4 * i.1) ((outN s i.1).map byte)])
    (fun i => i.1 ≤ 8 ∧ 4 * i.1 ≤ i.2.2 ∧ i.2.2 ≤ maxLen) (fun i => 8 - i.1) (0, none, 0) ⟨Nat.zero_le _, Nat.zero_le _, Nat.zero_le _⟩ (Ent.same ⟨rfl, rfl, rfl, trivial⟩ rfl) g ?_
  rintro ⟨i, A, c⟩ ⟨hi, hc, hcm⟩
  simp only at hi hc hcm
  refine BIf.dec (fun hlt => ?_) (fun hge => ?_)
  · have hlt : i < 8 := by omega
    obtain ⟨x, hx⟩ : ∃ x, s.l.getD i 0 = x := ⟨_, rfl⟩
    refine ⟨i, rfl, hlt, ?_⟩
    conv => whnf
    generalize hn : nth _ _ = o
    obtain rfl : o = some (sl32 x) := hn.symm.trans (by
      show nth (s.l.map sl32) (0 + i * 1) = _
      rw [Nat.zero_add, Nat.mul_one, ← hx, nth_eq]
      exact l_get s i hlt)
    clear hn
    refine ⟨by omega, _, shr32 x 24 (by omega), _, u8_of32 _, by omega, _, shr32 x 16 (by omega), _, u8_of32 _, by omega, _, shr32 x 8 (by omega), _, u8_of32 _, _, u8_of32 _, ?_⟩
    intro b2
    refine ⟨1, 4 * i, 4 * (i + 1), (outN s i).map byte, (b4 x).map byte, _, rfl, fun β w hs => row_rd (hs.get 0 rfl), bytes_one _, by omega, rfl, by rw [maxLen_eq]; omega, by show 4 * (i + 1) * 1 ≤ _; omega, ?_⟩
    intro A' c' h1 h2 _
    refine ⟨((i + 1 : Nat) : Int), by rw [wrap_i64 (by omega) (by omega)]; rfl, ?_⟩
    refine ⟨(i + 1, A', c'), ⟨by show i + 1 ≤ 8; omega, h1, h2⟩, by show 8 - (i + 1) < 8 - i; omega, Ent.mk' ⟨rfl, rfl, rfl, trivial⟩ rfl (fun β w' hs => ?_)⟩
    have e1 := outN_succ s i hlt
    rw [hx] at e1
    have h3 := hs.weaken (List.Sublist.refl _) (List.sublist_cons_self _ _)
    show Sat _ _ _ _ [rowF ty_uint8 1 (.slice A' (4 * (i + 1)) c') (4 * (i + 1)) ((outN s (i + 1)).map byte)] _
    rw [← e1, List.map_append]
    exact h3
  · obtain rfl : i = 8 := by omega
    intro β w' hs
    have h2 := hs.ofBk
    have hb : β 0 = b := h2.fix.2 0 (Nat.zero_lt_one)
    refine h2.fin [0, 1] ⟨A, c, rfl, hc, hcm, ?_⟩
    show [bkF (β 0) ty ((s.l.map sl32).map (SL.val β)), _] = [stF b ty s, _]
    rw [hb]
    rfl
theorem wrap_u8n (x : Nat) : IntKind.u8.wrap (x : Int) = ((UInt8.ofNat x).toNat : Int) := by
  rw [show IntKind.u8.wrap (x : Int) = (x : Int) % 256 by simp [IntKind.wrap, IntKind.bits, IntKind.signed], UInt8.toNat_ofNat']
  omega
theorem wrap_u64' (x : Int) : IntKind.u64.wrap x = x % 18446744073709551616 := by simp [IntKind.wrap, IntKind.bits, IntKind.signed]
theorem longN_succ (n : Nat) : ∀ i, i < 8 → (Sha.long n).take i ++ [UInt8.ofNat (n / 2 ^ (8 * (7 - i)))] = (Sha.long n).take (i + 1)
  | 0, _ => rfl | 1, _ => rfl | 2, _ => rfl | 3, _ => rfl | 4, _ => rfl | 5, _ => rfl | 6, _ => rfl | 7, _ => rfl
  | n + 8, h => by omega
theorem long_c (w : World) (n : Nat) :
    Con Tryz.prog n_sha_long #[.int .u64 n] w [] fun v Fs => ∃ A c, v = .slice A 8 c ∧ 8 ≤ c ∧ c ≤ maxLen ∧ Fs = [browF ty_uint8 A (Sha.long n) c] := by
  have g := good_sha_long w (Un [])
  refine con_of_sx (cx := cx_sha_long w (Un [])) g b_sha_long rfl rfl (β := Va.z) [.c (.v (.int .u64 n))] 0 [] [browF ty_uint8 none [] 0] rfl rfl ((Sat.start rfl).nilRow _ _) ?_
  refine loop_rule (ι := Nat × Option Addr × Nat) 0 (fun i => [(0, .c (.v (.int .u64 n))), (5, .c (.v (.int .i64 i.1))), (3, .c (.v (.slice i.2.1 i.1 i.2.2)))]) (fun _ => [])
    (fun i => [rowF ty_uint8 1 (.slice i.2.1 i.1 i.2.2) i.1 (((Sha.long n).take i.1).map byte)])
    (fun i => i.1 ≤ 8 ∧ i.1 ≤ i.2.2 ∧ i.2.2 ≤ maxLen) (fun i => 8 - i.1) (0, none, 0) ⟨Nat.zero_le _, Nat.zero_le _, Nat.zero_le _⟩ (Ent.same ⟨rfl, rfl, rfl, trivial⟩ rfl) g ?_
  rintro ⟨i, A, c⟩ ⟨hi, hc, hcm⟩
  simp only at hi hc hcm
  refine BIf.dec (fun hlt => ?_) (fun hge => ?_)
  · have hlt : i < 8 := by omega
    refine ⟨((7 - i : Nat) : Int), by rw [wrap_i64 (by omega) (by omega)]; omega, ((8 * (7 - i) : Nat) : Int), by rw [wrap_i64 (by omega) (by omega)]; omega, ?_⟩
    refine ⟨by omega, ((n / 2 ^ (8 * (7 - i)) : Nat) : Int), ?_, _, wrap_u8n _, ?_⟩
    · have h1 : min ((8 * (7 - i) : Nat) : Int).toNat IntKind.u64.bits = 8 * (7 - i) := by show min (8 * (7 - i)) 64 = _; omega
      rw [h1]
      have : (2 ^ (8 * (7 - i)) : Int) = ((2 ^ (8 * (7 - i)) : Nat) : Int) := by push_cast; rfl
      rw [this, Int.fdiv_eq_ediv_of_nonneg _ (Int.natCast_nonneg _)]
      exact (Int.natCast_ediv _ _).symm
    intro b2
    refine ⟨1, i, i + 1, ((Sha.long n).take i).map byte, [UInt8.ofNat (n / 2 ^ (8 * (7 - i)))].map byte, _, rfl, fun β w hs => row_rd (hs.get 0 rfl), bytes_one _, rfl, rfl, by rw [maxLen_eq]; omega, by show (i + 1) * 1 ≤ _; omega, ?_⟩
    intro A' c' h1 h2 _
    refine ⟨((i + 1 : Nat) : Int), by rw [wrap_i64 (by omega) (by omega)]; rfl, ?_⟩
    refine ⟨(i + 1, A', c'), ⟨by show i + 1 ≤ 8; omega, h1, h2⟩, by show 8 - (i + 1) < 8 - i; omega, Ent.mk' ⟨rfl, rfl, rfl, trivial⟩ rfl (fun β w' hs => ?_)⟩
    have h3 := hs.weaken (List.Sublist.refl _) (List.sublist_cons_self _ _)
    show Sat _ _ _ _ [rowF ty_uint8 1 (.slice A' (i + 1) c') (i + 1) (((Sha.long n).take (i + 1)).map byte)] _
    rw [← longN_succ n i hlt, List.map_append]
    exact h3
  · obtain rfl : i = 8 := by omega
    intro β w' hs
    exact hs.fin [0] ⟨A, c, rfl, hc, hcm, rfl⟩
theorem ends_c (w : World) (n : Nat) (hn : n ≤ 140737488355328) :
    Con Tryz.prog n_sha_ends #[.int .u64 n] w [] fun v Fs => ∃ A c, v = .slice A (Sha.ends n).length c ∧ (Sha.ends n).length ≤ c ∧ c ≤ maxLen ∧ Fs = [browF ty_uint8 A (Sha.ends n) c] := by
  have g := good_sha_ends w (Un [])
  have hz : zeros n < 64 := by unfold zeros; omega
  refine con_of_sx (cx := cx_sha_ends w (Un [])) g b_sha_ends rfl rfl (β := Va.z) [.c (.v (.int .u64 n))] 0 [] [] rfl rfl (Sat.start rfl) ?_
  intro b0
  refine loop_rule (ι := Nat × Option Addr × Nat) 0 (fun i => [(0, .c (.v (.int .u64 n))), (3, .c (.v (.slice i.2.1 (i.1 + 1) i.2.2)))]) (fun _ => [])
    (fun i => [rowF ty_uint8 1 (.slice i.2.1 (i.1 + 1) i.2.2) (i.1 + 1) (((0x80 : UInt8) :: List.replicate i.1 0).map byte)])
    (fun i => i.1 ≤ zeros n ∧ i.1 + 1 ≤ i.2.2 ∧ i.2.2 ≤ maxLen) (fun i => zeros n - i.1) (0, some ⟨b0, 0, none⟩, 1) ⟨Nat.zero_le _, Nat.le_refl _, by show 1 ≤ maxLen; decide⟩ (Ent.same ⟨rfl, rfl, trivial⟩ rfl) g ?_
  rintro ⟨i, A, c⟩ ⟨hi, hc, hcm⟩
  simp only at hi hc hcm
  obtain ⟨r, hr⟩ : ∃ r : Nat, (n + (i + 1) + 8) % 64 = r := ⟨_, rfl⟩
  refine ⟨((i + 1 : Nat) : Int), by rw [wrap_u64']; omega, ((n + (i + 1) : Nat) : Int), by rw [wrap_u64']; omega, ((n + (i + 1) + 8 : Nat) : Int), by rw [wrap_u64']; omega, by omega, (r : Int), by rw [Int.tmod_eq_emod_of_nonneg (by omega)]; omega, ?_⟩
  refine BIf.not (BIf.dec (fun h0 => ?_) (fun h0 => ?_))
  · have hiz : i = zeros n := by unfold zeros at *; omega
    refine ⟨((8 * n : Nat) : Int), by rw [wrap_u64']; omega, ?_⟩
    refine call_con [] (fun β w' hs => long_c w' (8 * n)) ?_
    rintro v Fs ⟨A2, c2, rfl, h1, h2, rfl⟩
    have hl : (Sha.ends n).length = i + 1 + 8 := by rw [Sha.ends_len, hiz]; omega
    refine ⟨1, i + 1, (Sha.ends n).length, _, (Sha.long (8 * n)).map byte, (Sha.ends n).map byte, rfl, fun β w hs => row_rd (hs.get 0 rfl), bytes_one _, hl.symm, by rw [← List.map_append, hiz]; rfl, by rw [maxLen_eq, hl]; omega, by show (Sha.ends n).length * 1 ≤ _; omega, ?_⟩
    intro A' c' h3 h4 _
    intro β w' hs
    exact hs.fin [1] ⟨A', c', rfl, h3, h4, rfl⟩
  · have hiz : i < zeros n := by
      rcases Nat.lt_or_ge i (zeros n) with h | h
      · exact h
      · exfalso
        apply h0
        have : i = zeros n := by omega
        subst this
        unfold zeros at hr
        omega
    intro b2
    refine ⟨1, i + 1, i + 1 + 1, ((0x80 : UInt8) :: List.replicate i 0).map byte, [(0 : UInt8)].map byte, _, rfl, fun β w hs => row_rd (hs.get 0 rfl), bytes_one _, rfl, rfl, by rw [maxLen_eq]; omega, by show (i + 1 + 1) * 1 ≤ _; omega, ?_⟩
    intro A' c' h1 h2 _
    refine ⟨(i + 1, A', c'), ⟨hiz, h1, h2⟩, by show zeros n - (i + 1) < zeros n - i; omega, Ent.mk' ⟨rfl, rfl, trivial⟩ rfl (fun β w' hs => ?_)⟩
    have h3 := hs.weaken (List.Sublist.refl _) (List.sublist_cons_self _ _)
    show Sat _ _ _ _ [rowF ty_uint8 1 (.slice A' (i + 1 + 1) c') (i + 1 + 1) (((0x80 : UInt8) :: List.replicate (i + 1) 0).map byte)] _
    rw [List.replicate_succ', ← List.cons_append, List.map_append]
    exact h3
theorem clone_c (w : World) (A : Option Addr) (l : List UInt8) (c : Nat) (hr : Bs w A l) (hn : l.length ≤ 140737488355328) :
    Con Tryz.prog n_bytes_Clone #[.slice A l.length c] w [] fun v Fs => ∃ A' c', v = .slice A' l.length c' ∧ l.length ≤ c' ∧ c' ≤ maxLen ∧ Fs = [browF ty_uint8 A' l c'] := by
  refine con_of_sx (cx := cx_bytes_Clone w (Un [])) (good_bytes_Clone w (Un [])) b_bytes_Clone rfl rfl (β := Va.z) [.c (.v (.slice A l.length c))] 0 [] [bsF A l] rfl rfl ((Sat.start rfl).rd (fun _ h => by cases h) hr) ?_
  refine BIf.mk (fun h => ?_) (fun h => ?_)
  · intro β w' hs
    have hA : A = none := by simpa using h
    subst hA
    have hl : l = [] := by
      cases l with
      | nil => rfl
      | cons x r => obtain ⟨ad, q⟩ := Bs.addr hr (by simp); cases q
    subst hl
    exact (hs.nilRow ty_uint8 1).fin [0] ⟨none, 0, rfl, Nat.le_refl _, Nat.zero_le _, rfl⟩
  intro b
  refine ⟨0, 0, l.length, [], l.map byte, _, rfl, fun β w hs => hs.get 1 rfl, bytes_one l, Nat.zero_add _, rfl, by rw [maxLen_eq]; omega, by show l.length * 1 ≤ _; omega, ?_⟩
  intro A' c' h1 h2 h3 β w' hs
  exact hs.fin [0] ⟨A', c', rfl, h1, h2, rfl⟩
def blk (q : List UInt8) (i : Nat) : List UInt8 := (q.drop (64 * i)).take 64
def blks (q : List UInt8) (n : Nat) : List (List UInt8) := (List.range n).map (blk q)
theorem blks_succ (q : List UInt8) (n : Nat) : blks q (n + 1) = blks q n ++ [blk q n] := by simp [blks, List.range_succ]
theorem go_eq : ∀ (n : Nat) (s : S8) (q : List UInt8), go n s q = (blks q n).foldl Sha.step s
  | 0, s, q => rfl
  | n + 1, s, q => by
    rw [go, go_eq n]
    have : blks q (n + 1) = q.take 64 :: blks (q.drop 64) n := by
      simp only [blks, List.range_succ_eq_map, List.map_cons, List.map_map]
      congr 1
      refine List.map_congr_left fun i _ => ?_
      simp only [Function.comp, blk, List.drop_drop]
      rw [show 64 * (i + 1) = 64 + 64 * i by omega]
    rw [this, List.foldl_cons]
def insB (x : List UInt8) (args : Array Value) (X : Fact) : Prop := x.length = 64 ∧ ∃ B, args = #[.slice B 64 64] ∧ X = bsF B x
theorem blocks_it (l : Nat) (w : World) (bx : Nat) (A : Option Addr) (p : List UInt8) (c : Nat) (f0 R : Fact) (J Jx : List (List UInt8) → Fact → Prop) (hJ0 : J [] f0) (hJo : ∀ pre f, J pre f → f.own = true) (hRo : R.own = false) (hY : Yc Tryz.prog l J Jx R (fun _ => insB))
    (hp : p.length ≤ 70368744177664) (hm : Mem w (f0 :: R :: [bkF bx ty_sl_uint8 [.slice A p.length c], bsF A p])) :
    Con Tryz.prog n_sha_Blocks_1 #[.func (.yield l) #[] #[], .pointer (some ⟨bx, 0, none⟩)] w [f0, bkF bx ty_sl_uint8 [.slice A p.length c]]
      (fun _ Fs => ∃ f Fs', Fs = f :: Fs' ∧ ((∃ xs, J xs f ∧ xs = blks (p ++ ends p.length) ((p ++ ends p.length).length / 64) ∧ Fs' = []) ∨ (∃ pre, Jx pre f ∧ Fs' = []))) := by
  have g := good_sha_Blocks_1 w (Un [f0, bkF bx ty_sl_uint8 [.slice A p.length c]]) [bx]
  have hs0 : Sat (cx_sha_Blocks_1 w (Un [f0, bkF bx ty_sl_uint8 [.slice A p.length c]]) [bx]) (Va.of fun _ => bx) 1 [] (f0 :: R :: [bkF bx ty_sl_uint8 [.slice A p.length c], bsF A p]) w := by
    refine hm.sat rfl (fun f hf ho k hk => ?_) ⟨Nat.le_refl 1, fun i hi => by obtain rfl : i = 0 := Nat.lt_one_iff.1 hi; rfl⟩
    simp only [List.mem_cons, List.not_mem_nil, or_false] at hf
    rcases hf with rfl | rfl | rfl | rfl
    · exact ⟨_, by simp, hk⟩
    · rw [hRo] at ho; cases ho
    · exact ⟨_, by simp, hk⟩
    · cases ho
  have hs1 := hs0.toBk 2 rfl 0 Nat.zero_lt_one rfl
  have hf0 := hJo _ _ hJ0
  refine con_of_sx (cx := cx_sha_Blocks_1 w (Un [f0, bkF bx ty_sl_uint8 [.slice A p.length c]]) [bx]) g b_sha_Blocks_1 rfl rfl (β := Va.of fun _ => bx) [.c (.v (.func (.yield l) #[] #[])), .c (.p 0 0)] 1 [⟨0, ty_sl_uint8, [.v (.slice A p.length c)]⟩] [f0, R, bsF A p] rfl rfl hs1 ?_
  refine draw_rule g p_sha_Blocks_1_0 (by kernel_rfl) [⟨0, ty_sl_uint8, [.v (.slice A p.length c)]⟩] [f0, R, bsF A p] Sub.refl ?_
  refine ⟨((p.length : Nat) : Int), by rw [wrap_u64']; omega, ?_⟩
  refine call_con [] (fun β w' hs => clone_c w' A p c (hs.get 2 rfl) (by omega)) ?_
  rintro v Fs ⟨A1, c1, rfl, h1, h2, rfl⟩
  refine ⟨Sub.dropF 1 rfl, ?_⟩
  refine call_con [] (fun β w' hs => ends_c w' p.length (by omega)) ?_
  rintro v Fs ⟨A2, c2, rfl, h3, h4, rfl⟩
  refine ⟨Sub.dropF 2 rfl, ?_⟩
  obtain ⟨q, hq⟩ : ∃ q, p ++ ends p.length = q := ⟨_, rfl⟩
  have hql : q.length = p.length + (ends p.length).length := by rw [← hq, List.length_append]
  have hel : (ends p.length).length < 73 := by rw [Sha.ends_len]; unfold zeros; omega
  have hqm : q.length % 64 = 0 := by rw [← hq]; exact Sha.pad_mod p
  rw [hq]
  refine ⟨1, p.length, q.length, _, (ends p.length).map byte, q.map byte, rfl, fun β w hs => row_rd (hs.get 0 rfl), bytes_one _, hql.symm, by rw [← hq, List.map_append], by rw [maxLen_eq]; omega, by show q.length * 1 ≤ _; omega, ?_⟩
  intro A3 c3 h5 h6 _
  refine ⟨Sub.dropF 2 rfl, ?_⟩
  refine loop_rule (ι := Nat × Option Addr × Nat × Fact) 1 (fun i => [(0, .c (.v (.func (.yield l) #[] #[]))), (3, .c (.v (.slice i.2.1 (q.length - 64 * i.1) i.2.2.1)))]) (fun _ => [⟨0, ty_sl_uint8, [.v (.slice A p.length c)]⟩])
    (fun i => [browF ty_uint8 A3 q c3, i.2.2.2, R])
    (fun i => 64 * i.1 ≤ q.length ∧ q.length - 64 * i.1 ≤ i.2.2.1 ∧ i.2.2.1 ≤ maxLen ∧ J (blks q i.1) i.2.2.2 ∧ (∀ w, Bs w A3 q → Bs w i.2.1 (q.drop (64 * i.1))) ∧ (∀ ad, i.2.1 = some ad → ∃ ad3, A3 = some ad3 ∧ ad.block = ad3.block)) (fun i => q.length - 64 * i.1) (0, A3, c3, f0)
    ⟨Nat.zero_le _, h5, h6, hJ0, fun w h => h, fun ad h => ⟨ad, h, rfl⟩⟩ (Ent.mk' ⟨rfl, rfl, trivial⟩ rfl (fun β w' hs => hs.weaken (List.Sublist.refl _) (List.Sublist.cons _ (List.Sublist.cons_cons _ (List.Sublist.cons_cons _ (List.Sublist.cons_cons _ (List.nil_sublist _))))))) g ?_
  rintro ⟨i, B, cap, f⟩ ⟨hi, hcap, hcm, hJ, hB, hBD⟩
  simp only at hi hcap hcm hJ hB hBD
  have hfo := hJo _ _ hJ
  obtain ⟨m, hm⟩ : ∃ m, q.length - 64 * i = m := ⟨_, rfl⟩
  have hmc : m ≤ cap := by omega
  rw [hm]
  have hdl : (q.drop (64 * i)).length = m := by rw [List.length_drop]; omega
  refine BIf.dec (fun h0 => ?_) (fun h0 => ?_)
  · have hm64 : 64 ≤ m := by omega
    have hbl : (blk q i).length = 64 := by unfold blk; rw [List.length_take, hdl]; omega
    refine ⟨64, 64, 0, 64, 64, _, rfl, rfl, rfl, by show 64 ≤ cap; omega, by omega, by omega, rfl, rfl, rfl, ?_⟩
    have hcutD : ∀ k, (bsF (cutA B 64 0 1) (blk q i)).D k → (browF ty_uint8 A3 q c3).D k := by
      rintro k ⟨_, ad, had, rfl⟩
      simp only [cutA] at had
      rw [if_neg (by decide)] at had
      cases B with
      | none => cases had
      | some ad0 =>
        obtain rfl : ad0.add (0 * 1) = ad := by simpa using had
        obtain ⟨ad3, h7, h8⟩ := hBD ad0 rfl
        subst h7
        have : (ad0.add (0 * 1)).block = ad0.block := by unfold Addr.add; split <;> rfl
        show some ad3.block = some (ad0.add (0 * 1)).block
        rw [this, h8]
    refine yield_ro (x := blk q i) (X := bsF (cutA B 64 0 1) (blk q i)) hY 1 2 rfl hJ hfo rfl hRo (by decide) (fun β => ⟨hbl, _, rfl, rfl⟩) rfl (fun β w' hs => ⟨?_, fun k hk => hs.getLt 0 rfl k (hcutD k hk), fun k hk hk' => ?_⟩) ?_ ?_
    · have h7 := Bs.cut (hB w' (row_rd (hs.get 0 rfl))) (c := cap) (m := 64) (i := 0) (j := 64) (by omega) (.inr (Nat.le_refl _)) (by omega) (by omega) (by omega)
      have h8 : Rd 1 (cutA B 64 0 1) (blk q i).length ((blk q i).map byte) w' := by rw [hbl]; exact h7
      exact h8
    · exact hs.apart (i := 1) (j := 0) rfl rfl (by decide) (.inr rfl) k hk (hcutD k hk')
    · intro f2 hfo2 hJ2
      refine ⟨cap, m, 64, m - 64, cap - 64, _, rfl, rfl, rfl, Nat.le_refl _, hmc, hm64, rfl, rfl, rfl, ?_⟩
      refine ⟨(i + 1, cutA B cap 64 1, cap - 64, f2), ⟨by show 64 * (i + 1) ≤ _; omega, by show q.length - 64 * (i + 1) ≤ cap - 64; omega, by show cap - 64 ≤ _; omega, by show J (blks q (i + 1)) f2; rw [blks_succ]; exact hJ2, fun w' h => ?_, fun ad had => ?_⟩, by show q.length - 64 * (i + 1) < m; omega, Ent.mk' ⟨rfl, ?_, trivial⟩ rfl (fun β w' hs => ?_)⟩
      · have h7 := Bs.cutB (hB w' h) (c := cap) (i := 64) (j := m) (m := q.drop (64 * (i + 1))) (by omega) hm64 (by omega) (by
          rw [List.drop_drop, show 64 * i + 64 = 64 * (i + 1) by omega, List.take_of_length_le]
          rw [List.length_drop]; omega)
        exact h7
      · have had' : cutA B cap 64 1 = some ad := had
        unfold cutA at had'
        split at had'
        · exact hBD ad had'
        · cases B with
          | none => cases had'
          | some ad0 =>
            obtain rfl : ad0.add (64 * 1) = ad := by simpa using had'
            obtain ⟨ad3, h7, h8⟩ := hBD ad0 rfl
            refine ⟨ad3, h7, ?_⟩
            rw [← h8]
            unfold Addr.add; split <;> rfl
      · show _ = some (SV.c (.v (.slice _ (q.length - 64 * (i + 1)) _)))
        rw [show q.length - 64 * (i + 1) = m - 64 by omega]
        rfl
      · exact (hs.keepB (List.Sublist.refl _)).perm [1, 0, 2]
    · intro f2 hfo2 hJ2 β w' hs
      exact hs.fin [0] ⟨f2, [], rfl, .inr ⟨_, hJ2, rfl⟩⟩ rfl rfl rfl ⟨hfo2, trivial⟩
  · have hi2 : i = q.length / 64 := by omega
    intro β w' hs
    exact hs.fin [1] ⟨f, [], rfl, .inl ⟨_, hJ, by rw [hi2], rfl⟩⟩ rfl rfl rfl ⟨hfo, trivial⟩
theorem rd_sub_row {e size k n c : Nat} {A : Option Addr} {xs ys : List Value} : ∀ g, (rdF size A k xs).D g → (rowF e size (.slice A n c) n ys).D g := by
  rintro g ⟨_, ad, rfl, rfl⟩
  rfl
theorem Mem.lastRd {w : World} {f R X : Fact} {e c : Nat} {A : Option Addr} {l : List UInt8} (h : Mem w [f, R, X, browF e A l c]) : Mem w [f, R, X, bsF A l] := by
  have hp : Bs w A l := row_rd (h.fact (browF e A l c) (by simp))
  refine ⟨fun g hg => ?_, fun g hg k hk => ?_, ?_⟩
  · simp only [List.mem_cons, List.not_mem_nil, or_false] at hg
    rcases hg with rfl | rfl | rfl | rfl
    · exact h.fact _ (by simp)
    · exact h.fact _ (by simp)
    · exact h.fact _ (by simp)
    · exact hp
  · simp only [List.mem_cons, List.not_mem_nil, or_false] at hg
    rcases hg with rfl | rfl | rfl | rfl
    · exact h.flt g (by simp) k hk
    · exact h.flt g (by simp) k hk
    · exact h.flt g (by simp) k hk
    · exact h.flt (browF e A l c) (by simp) k (rd_sub_row k hk)
  · obtain ⟨h1, h2⟩ := List.pairwise_cons.1 h.sepf
    obtain ⟨h3, h4⟩ := List.pairwise_cons.1 h2
    obtain ⟨h5, _⟩ := List.pairwise_cons.1 h4
    refine List.pairwise_cons.2 ⟨fun g hg ho => ?_, List.pairwise_cons.2 ⟨fun g hg ho => ?_, List.pairwise_cons.2 ⟨fun g hg ho => ?_, List.pairwise_singleton _ _⟩⟩⟩
    · simp only [List.mem_cons, List.not_mem_nil, or_false] at hg
      rcases hg with rfl | rfl | rfl
      · exact h1 _ (by simp) ho
      · exact h1 _ (by simp) ho
      · exact fun k hk q => h1 (browF e A l c) (by simp) (.inr rfl) k hk (rd_sub_row k q)
    · simp only [List.mem_cons, List.not_mem_nil, or_false] at hg
      rcases hg with rfl | rfl
      · exact h3 _ (by simp) ho
      · exact fun k hk q => h3 (browF e A l c) (by simp) (.inr rfl) k hk (rd_sub_row k q)
    · obtain rfl := List.mem_singleton.1 hg
      exact fun k hk q => h5 (browF e A l c) (by simp) (.inr rfl) k hk (rd_sub_row k q)
theorem Blocks_c (w : World) (A : Option Addr) (n c : Nat) : Con Tryz.prog n_sha_Blocks #[.slice A n c] w [] (fun v Fs => ∃ bx, v = .func (.func n_sha_Blocks_1) #[] #[.pointer (some ⟨bx, 0, none⟩)] ∧ Fs = [bkF bx ty_sl_uint8 [.slice A n c]]) := by
  refine con_of_sx (cx := cx_sha_Blocks w (Un [])) (good_sha_Blocks w (Un [])) b_sha_Blocks rfl rfl (β := Va.z) [.c (.v (.slice A n c))] 0 [] [] rfl rfl (Sat.start rfl) ?_
  intro β w' hs
  exact hs.ofBk.fin [0] ⟨β 0, rfl, rfl⟩
theorem join1_c (w : World) (P A : Option Addr) (cP c : Nat) (l : List UInt8) (hP : Rd 1 P 1 [.slice A l.length c] w) (hr : Bs w A l) (hn : l.length ≤ 140737488355328) :
    Con Tryz.prog n_bytes_Join #[.slice P 1 cP, .slice none 0 0] w [] fun v Fs => ∃ A' c', v = .slice A' l.length c' ∧ l.length ≤ c' ∧ c' ≤ maxLen ∧ Fs = [browF ty_uint8 A' l c'] := by
  have hs0 : Sat (cx_bytes_Join w (Un [])) Va.z 0 [] [oldF w] w := old_sat rfl
  refine con_of_sx (cx := cx_bytes_Join w (Un [])) (good_bytes_Join w (Un [])) b_bytes_Join rfl rfl (β := Va.z) [.c (.v (.slice P 1 cP)), .c (.v (.slice none 0 0))] 0 [] [browF ty_uint8 none [] 0, oldF w] rfl rfl (hs0.nilRow _ _) ?_
  obtain ⟨ad, rfl, hc⟩ := hP.2 (by decide)
  refine ⟨ad, 0, rfl, rfl, by decide, .slice A l.length c, fun β w' hs => ?_, ?_⟩
  · have h1 : Rd 1 (some ad) 1 [.slice A l.length c] w' := hP.old (hs.get 1 rfl)
    obtain ⟨ad', h2, h3⟩ := h1.2 (by decide)
    obtain rfl := Option.some.inj h2
    exact h3 0 _ rfl
  refine ⟨0, 0, l.length, [], l.map byte, _, rfl, fun β w' hs => hr.old (hs.get 1 rfl), bytes_one l, Nat.zero_add _, rfl, by rw [maxLen_eq]; omega, by show l.length * 1 ≤ _; omega, ?_⟩
  intro A' c' h1 h2 h3 β w' hs
  exact hs.fin [0] ⟨A', c', rfl, h1, h2, rfl⟩
theorem step64_c (w : World) (b ty : Nat) (s : S8) (A : Option Addr) (x : List UInt8) (hx : x.length = 64) (hm : Mem w [stF b ty s, bsF A x, oddF 2]) :
    Con Tryz.prog n_sha_state_step #[.pointer (some ⟨b, 0, none⟩), .slice A 64 64] w [stF b ty s] fun v Fs => v = .tuple #[] ∧ Fs = [stF b ty (Sha.step s x)] := by
  have := step_c w b ty s A x 64 hm (by omega) (by omega) (by decide)
  rw [hx] at this
  exact this
def firstF (g : Nat) : Fact := rdF 1 (some ⟨g, 0, none⟩) 8 (Sha.first.l.map u32)
theorem sum1_c (w : World) (P A : Option Addr) (cP c : Nat) (l : List UInt8) (hP : Rd 1 P 1 [.slice A l.length c] w) (hr : Bs w A l) (hn : l.length ≤ 70368744177664) (h1 : (oddF 2).p w) (h0 : (firstF 0).p w) :
    Con Tryz.prog n_sha_Sum #[.slice P 1 cP] w [] fun v Fs => ∃ A' c', v = .slice A' 32 c' ∧ 32 ≤ c' ∧ c' ≤ maxLen ∧ Fs = [browF ty_uint8 A' (Sha.sum l) c'] := by
  have g := good_sha_Sum w (Un [])
  have hs0 : Sat (cx_sha_Sum w (Un [])) Va.z 0 [] [oldF w] w := old_sat rfl
  have hs1 : Sat (cx_sha_Sum w (Un [])) Va.z 0 [] [oddF 2, oldF w] w := hs0.sub 0 rfl rfl _ rfl h1 (rd_lt h1)
  refine con_of_sx (cx := cx_sha_Sum w (Un [])) g b_sha_Sum rfl rfl (β := Va.z) [.c (.v (.slice P 1 cP))] 0 [] [oddF 2, oldF w] rfl rfl hs1 ?_
  refine ⟨Sha.first.l.map u32, rfl, fun β w' hs j u hu => ?_, ?_⟩
  · have h2 : Rd 1 (some ⟨0, 0, none⟩) 8 (Sha.first.l.map u32) w' := Rd.old h0 (hs.get 1 rfl)
    obtain ⟨ad, h3, h4⟩ := h2.2 (by decide)
    obtain rfl := Option.some.inj h3
    exact h4 j u hu
  refine call_con [] (fun β w' hs => join1_c w' P A cP c l (hP.old (hs.get 1 rfl)) (hr.old (hs.get 1 rfl)) (by omega)) ?_
  rintro v Fs ⟨A1, c1, rfl, h2, h3, rfl⟩
  refine call_con [] (fun β w' hs => Blocks_c w' A1 l.length c1) ?_
  rintro v Fs ⟨bx, rfl, rfl⟩
  refine reify_rule g 0 (fun _ => Sha.first.l.map u32) rfl rfl (fun _ => rfl) (fun sb => ?_)
  obtain ⟨q, hq⟩ : ∃ q, l ++ ends l.length = q := ⟨_, rfl⟩
  have hsum : Sha.sum l = out ((blks q (q.length / 64)).foldl Sha.step Sha.first) := by rw [← go_eq, ← hq]; rfl
  rw [hsum]
  refine range_rule (α := List UInt8) (ι := S8) (κ := S8) g rfl (cv := [.pointer (some ⟨bx, 0, none⟩)]) rfl (by kernel_rfl) 1 (Nat.le_refl 1)
    (fun pre s => s = pre.foldl Sha.step Sha.first) (fun _ => []) (fun s => [stF sb 170 s]) (fun _ => ⟨rfl, trivial⟩)
    (fun _ _ _ => False) (fun _ => []) (fun _ => []) (fun _ => trivial)
    [bkF bx ty_sl_uint8 [.slice A1 l.length c1]] [browF ty_uint8 A1 l c1] [oddF 2] ⟨rfl, trivial⟩ (fun g hg => by obtain rfl := List.mem_singleton.1 hg; rfl)
    Sha.first rfl (fun β w' hs => ⟨β, Agr.refl _ _, hs.perm [1, 2, 0, 3]⟩) (fun _ => insB)
    (fun xs Fs' => xs = blks q (q.length / 64) ∧ Fs' = []) (fun _ Fs' => Fs' = [])
    (fun l' w' f0 R J Jx hJ0 hJo hRo hY hm => (blocks_it l' w' bx A1 l c1 f0 R J Jx hJ0 hJo hRo hY hn hm.lastRd).mono fun _ Fs h => by rw [hq] at h; exact h) ?_ ?_ ?_
  · rintro s pre x args X W S l' bs pn pn' hbs hpre ⟨hx, B, rfl, rfl⟩
    refine ⟨_, rfl, ?_⟩
    refine call_con [1] (fun β w' hs => step64_c w' sb 170 s B x hx (hs.mem.take (js := [1, 0, 2]) rfl)) ?_
    rintro v Fs ⟨rfl, rfl⟩
    refine ⟨Sha.step s x, by show Sha.step s x = (pre ++ [x]).foldl Sha.step Sha.first; rw [List.foldl_append, hpre]; rfl, Ent.mk' trivial rfl (fun β w' hs => ?_)⟩
    exact hs.weaken (List.Sublist.refl _) (List.Sublist.cons_cons _ (List.nil_sublist _))
  · rintro xs s Fs hpre ⟨rfl, rfl⟩
    refine call_con [0] (fun β w' hs => stbytes_c w' sb 170 s (hs.mem.take (js := [0]) rfl)) ?_
    rintro v Fs ⟨A3, c3, rfl, h5, h6, rfl⟩
    intro β w' hs
    refine hs.fin [1] ⟨A3, c3, rfl, h5, h6, ?_⟩
    rw [← hpre]
    rfl
  · rintro e pre s Fs h _
    exact h.elim
def stV (s : S8) : Value := .agg (s.l.map u32).toArray
theorem be4 (x : UInt32) : be 4 x.toNat = b4 x := by
  have hx := x.toNat_lt
  simp only [be, b4, List.nil_append, List.cons_append]
  have e : ∀ n, n < 256 → ∀ y : UInt8, y.toNat = n → UInt8.ofNat n = y := fun n _ y h => by rw [← h, UInt8.ofNat_toNat]
  have h1 : ∀ k : Nat, k < 32 → (x >>> UInt32.ofNat k).toNat = x.toNat / 2 ^ k := fun k hk => by
    rw [UInt32.toNat_shiftRight, UInt32.toNat_ofNat', Nat.mod_eq_of_lt (show k < 2 ^ 32 by omega), Nat.mod_eq_of_lt hk, Nat.shiftRight_eq_div_pow]
  congr 1
  · exact e _ (by omega) _ (by rw [UInt32.toNat_toUInt8, show (24 : UInt32) = UInt32.ofNat 24 from rfl, h1 24 (by omega)] <;> omega)
  congr 1
  · exact e _ (by omega) _ (by rw [UInt32.toNat_toUInt8, show (16 : UInt32) = UInt32.ofNat 16 from rfl, h1 16 (by omega)] <;> omega)
  congr 1
  · exact e _ (by omega) _ (by rw [UInt32.toNat_toUInt8, show (8 : UInt32) = UInt32.ofNat 8 from rfl, h1 8 (by omega)] <;> omega)
  congr 1
  exact e _ (by omega) _ (by rw [UInt32.toNat_toUInt8])
theorem ofNat_mod (n : Nat) : UInt8.ofNat (n % 256) = UInt8.ofNat n := by
  apply UInt8.toNat_inj.1
  rw [UInt8.toNat_ofNat', UInt8.toNat_ofNat']
  omega
theorem be8 (n : Nat) : be 8 n = Sha.long n := by
  simp only [be, Sha.long, List.nil_append, List.cons_append, ofNat_mod, List.map_cons, List.map_nil, Nat.div_div_eq_div_mul]
  simp
theorem first_c (w : World) : Pu Tryz.prog n_ostiaryref01_First #[] w (stV Sha.first) := by
  refine pu_of (calls_of_sx (cx := cx_ostiaryref01_First w None_) (good_ostiaryref01_First w None_) b_ostiaryref01_First rfl rfl (β := Va.z) [] 0 [] [] rfl rfl (Sat.start rfl) ?_)
  intro β w' hs
  exact ⟨rfl, hs.chg⟩
theorem be_con (w : World) (n k : Nat) (hn : n < 18446744073709551616) (hk : k ≤ 4096) :
    Con Tryz.prog n_ostiaryref01_Bytes #[.int .u64 n, .int .i64 k] w [] fun v Fs => ∃ A c, v = .slice A (be k n).length c ∧ (be k n).length ≤ c ∧ c ≤ maxLen ∧ Fs = [browF ty_uint8 A (be k n) c] := con_row (bytes_c w n k hn hk)
theorem tail_c (w : World) (n : Nat) (hn : n ≤ 140737488355328) :
    Con Tryz.prog n_ostiaryref01_Tail #[.int .u64 n] w [] fun v Fs => ∃ A c, v = .slice A (Sha.ends n).length c ∧ (Sha.ends n).length ≤ c ∧ c ≤ maxLen ∧ Fs = [browF ty_uint8 A (Sha.ends n) c] := by
  have g := good_ostiaryref01_Tail w (Un [])
  have hz : zeros n < 64 := by unfold zeros; omega
  refine con_of_sx (cx := cx_ostiaryref01_Tail w (Un [])) g b_ostiaryref01_Tail rfl rfl (β := Va.z) [.c (.v (.int .u64 n))] 0 [] [] rfl rfl (Sat.start rfl) ?_
  intro b0
  refine ⟨by decide, ((n % 64 : Nat) : Int), by rw [Int.tmod_eq_emod_of_nonneg (by omega)]; omega, ((n % 64 + 1 : Nat) : Int), by rw [wrap_u64']; omega, ?_⟩
  refine loop_rule (ι := Nat × Option Addr × Nat) 0 (fun i => [(0, .c (.v (.int .u64 n))), (4, .c (.v (.int .u64 ((n % 64 + 1 + i.1 : Nat) : Int)))), (3, .c (.v (.slice i.2.1 (i.1 + 1) i.2.2)))]) (fun _ => [])
    (fun i => [rowF ty_uint8 1 (.slice i.2.1 (i.1 + 1) i.2.2) (i.1 + 1) (((0x80 : UInt8) :: List.replicate i.1 0).map byte)])
    (fun i => i.1 ≤ zeros n ∧ i.1 + 1 ≤ i.2.2 ∧ i.2.2 ≤ maxLen) (fun i => zeros n - i.1) (0, some ⟨b0, 0, none⟩, 1) ⟨Nat.zero_le _, Nat.le_refl _, by show 1 ≤ maxLen; decide⟩ (Ent.same ⟨rfl, rfl, rfl, trivial⟩ rfl) g ?_
  rintro ⟨i, A, c⟩ ⟨hi, hc, hcm⟩
  simp only at hi hc hcm
  obtain ⟨r, hr⟩ : ∃ r : Nat, (n % 64 + 1 + i) % 64 = r := ⟨_, rfl⟩
  refine ⟨by decide, (r : Int), by dsimp only; rw [Int.tmod_eq_emod_of_nonneg (by omega)]; omega, ?_⟩
  refine BIf.not (BIf.dec (fun h0 => ?_) (fun h0 => ?_))
  · have hiz : i = zeros n := by unfold zeros at *; omega
    refine ⟨((8 * n : Nat) : Int), by rw [wrap_u64']; omega, ?_⟩
    refine call_con [] (fun β w' hs => be_con w' (8 * n) 8 (by omega) (by omega)) ?_
    rintro v Fs ⟨A2, c2, rfl, h1, h2, rfl⟩
    have hl : (Sha.ends n).length = i + 1 + 8 := by rw [Sha.ends_len, hiz]; omega
    refine ⟨1, i + 1, (Sha.ends n).length, _, (be 8 (8 * n)).map byte, (Sha.ends n).map byte, rfl, fun β w hs => row_rd (hs.get 0 rfl), bytes_one _, by rw [be_length]; exact hl.symm, by rw [← List.map_append, be8, hiz]; rfl, by rw [maxLen_eq, hl]; omega, by show (Sha.ends n).length * 1 ≤ _; omega, ?_⟩
    intro A' c' h3 h4 _
    intro β w' hs
    exact hs.fin [1] ⟨A', c', rfl, h3, h4, rfl⟩
  · have hiz : i < zeros n := by
      rcases Nat.lt_or_ge i (zeros n) with h | h
      · exact h
      · exfalso
        apply h0
        have : i = zeros n := by omega
        subst this
        unfold zeros at hr
        omega
    intro b2
    refine ⟨1, i + 1, i + 1 + 1, ((0x80 : UInt8) :: List.replicate i 0).map byte, [(0 : UInt8)].map byte, _, rfl, fun β w hs => row_rd (hs.get 0 rfl), bytes_one _, rfl, rfl, by rw [maxLen_eq]; omega, by show (i + 1 + 1) * 1 ≤ _; omega, ?_⟩
    intro A' c' h1 h2 _
    refine ⟨((n % 64 + 1 + (i + 1) : Nat) : Int), by dsimp only; rw [wrap_u64']; omega, ?_⟩
    refine ⟨(i + 1, A', c'), ⟨hiz, h1, h2⟩, by show zeros n - (i + 1) < zeros n - i; omega, Ent.mk' ⟨rfl, rfl, rfl, trivial⟩ rfl (fun β w' hs => ?_)⟩
    have h3 := hs.weaken (List.Sublist.refl _) (List.sublist_cons_self _ _)
    show Sat _ _ _ _ [rowF ty_uint8 1 (.slice A' (i + 1 + 1) c') (i + 1 + 1) (((0x80 : UInt8) :: List.replicate (i + 1) 0).map byte)] _
    rw [List.replicate_succ', ← List.cons_append, List.map_append]
    exact h3
theorem out_c (w : World) (s : S8) :
    Con Tryz.prog n_ostiaryref01_Out #[stV s] w [] fun v Fs => ∃ A c, v = .slice A 32 c ∧ 32 ≤ c ∧ c ≤ maxLen ∧ Fs = [browF ty_uint8 A (out s) c] := by
  have g := good_ostiaryref01_Out w (Un [])
  refine con_of_sx (cx := cx_ostiaryref01_Out w (Un [])) g b_ostiaryref01_Out rfl rfl (β := Va.z) [.agg (s.l.map sl32)] 0 [] [browF ty_uint8 none [] 0] rfl rfl ((Sat.start rfl).nilRow _ _) ?_
  refine loop_rule (ι := Nat × Option Addr × Nat) 1 (fun i => [(6, .agg (s.l.map sl32)), (7, .c (.v (.int .i64 i.1))), (3, .c (.v (.slice i.2.1 (4 * i.1) i.2.2)))]) (fun _ => [⟨0, 118, s.l.map sl32⟩])
    (fun i => [rowF ty_uint8 1 (.slice i.2.1 (4 * i.1) i.2.2) (4 * i.1) ((outN s i.1).map byte)])
    (fun i => i.1 ≤ 8 ∧ 4 * i.1 ≤ i.2.2 ∧ i.2.2 ≤ maxLen) (fun i => 8 - i.1) (0, none, 0) ⟨Nat.zero_le _, Nat.zero_le _, Nat.zero_le _⟩ (Ent.same ⟨rfl, rfl, rfl, trivial⟩ rfl) g ?_
  rintro ⟨i, A, c⟩ ⟨hi, hc, hcm⟩
  simp only at hi hc hcm
  refine BIf.dec (fun hlt => ?_) (fun hge => ?_)
  · have hlt : i < 8 := by omega
    obtain ⟨x, hx⟩ : ∃ x, s.l.getD i 0 = x := ⟨_, rfl⟩
    have hxl := x.toNat_lt
    refine ⟨i, sl32 x, rfl, hlt, by show (s.l.map sl32)[i * 1]? = _; rw [Nat.mul_one, ← hx]; exact l_get s i hlt, ?_⟩
    refine ⟨(x.toNat : Int), by rw [wrap_u64']; omega, ?_⟩
    refine call_con [] (fun β w' hs => be_con w' x.toNat 4 (by omega) (by omega)) ?_
    rintro v Fs ⟨A2, c2, rfl, h1, h2, rfl⟩
    refine ⟨1, 4 * i, 4 * (i + 1), (outN s i).map byte, (b4 x).map byte, _, rfl, fun β w hs => by rw [← be4]; exact row_rd (hs.get 0 rfl), bytes_one _, by rw [be_length]; omega, rfl, by rw [maxLen_eq]; omega, by show 4 * (i + 1) * 1 ≤ _; omega, ?_⟩
    intro A' c' h3 h4 _
    refine ⟨((i + 1 : Nat) : Int), by rw [wrap_i64 (by omega) (by omega)]; rfl, ?_⟩
    refine ⟨(i + 1, A', c'), ⟨by show i + 1 ≤ 8; omega, h3, h4⟩, by show 8 - (i + 1) < 8 - i; omega, Ent.mk' ⟨rfl, rfl, rfl, trivial⟩ rfl (fun β w' hs => ?_)⟩
    have e1 := outN_succ s i hlt
    rw [hx] at e1
    have h5 := hs.weaken (List.Sublist.refl _) (List.sublist_cons_self _ _)
    show Sat _ _ _ _ [rowF ty_uint8 1 (.slice A' (4 * (i + 1)) c') (4 * (i + 1)) ((outN s (i + 1)).map byte)] _
    rw [← e1, List.map_append]
    exact h5
  · obtain rfl : i = 8 := by omega
    intro β w' hs
    exact (hs.keepB (List.nil_sublist _)).fin [0] ⟨A, c, rfl, hc, hcm, rfl⟩
end Go.Proofs.YtloeaiafphkjnaaGreatDoor.Sx
