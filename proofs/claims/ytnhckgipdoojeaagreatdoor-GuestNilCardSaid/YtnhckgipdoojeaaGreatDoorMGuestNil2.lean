/- Texts joined: SxCon, SxOpen, SxRange, SxIt, SxPlus, SxArr, SxEff, Tab, R1, Be, Shelf, Bld, Bl2, U32, ShaL, NamL, BoxL, Bk1, Hex, Sha1, Sha2, Sha3, Sha4, Sha5, Sha6, Sha7, Sha8, Sha9, Pd0, Pd4, Pd5, Nam1, Nam2, Nam3, Nam4, Nam5, Nam6, Nam7, Nam8, Rl1, Rl4, Gn1, Nam9, NamP, NmT, Gn2. -/
import Derived.Test.YtnhckgipdoojeaaGreatDoorMGuestNil1
import Derived.ChangeSlices
import Derived.WideShapes
import Derived.Test.YtnhckgipdoojeaaGreatDoorProg
import Derived.Shelf.Strings.Builder1
import Derived.Shelf.Strings.Builder2
import Derived.Shelf.Strings.OnBuilder
import Derived.Shelf.Small.Utf8
import Derived.Shelf.Small.Bits
import Derived.Shelf.Small.Strs
import Derived.Shelf.Small.Wraps
import Derived.Shelf.Strconv.Itoa0
import Derived.Shelf.Strconv.Itoa1
import Derived.Shelf.LaysM
import Derived.Shelf.Strconv.Itoa2
import Derived.Shelf.Strconv.Itoa3
import Derived.Shelf.Strconv.AtoiErrFast
import Derived.Shelf.Strconv.ParseIntEmpty
import Derived.Shelf.Strconv.AtoiFail
import Derived.Shelf.Strconv.Clone
import Derived.Shelf.Strconv.SyntaxError
import Derived.Shelf.LaysC
import Derived.Shelf.Strconv.ToError
import Derived.Shelf.Strconv.AtoiErr
import Derived.Shelf.Strconv.Lower
import Derived.Shelf.Strconv.ParseUint10
import Derived.Shelf.Strconv.RangeError
import Derived.Shelf.Strconv.ToErrorRange
import Derived.Shelf.Strconv.ParseUintEmpty
import Derived.Shelf.Strconv.ParseUint10b64
import Derived.Shelf.Strconv.ParseUint10b32
import Derived.Shelf.Strconv.ParseUint10b16
import Derived.Shelf.Strconv.ParseUint10b8
import Derived.Shelf.Strconv.ParseUint10At
import Derived.Shelf.Strings.Search1
import Derived.Shelf.Strings.Search2
import Derived.Shelf.Strings.Cut
import Derived.Shelf.Strings.Shaped
import Derived.Shelf.Sort.Plain
import Derived.Shelf.Strings.Prefix
import Derived.Shelf.Unicode.Decode
import Derived.Shelf.Strings.Runes
import Derived.Shelf.Strings.AsciiSet
import Derived.Shelf.Bits.Mul64
import Derived.Shelf.Unicode.DecodeSlow
import Derived.Shelf.Unicode.DecodeAny
import Derived.Shelf.Unicode.DecodeLast
import Derived.Shelf.Slices.Turned
import Derived.Ground.Names2Prog
import Derived.Shelf.Slices.Clone
import Derived.Shelf.Slices.SearchI
import Derived.Shelf.Bytes.SlIndexSmall
import Derived.Shelf.Bytes.SlIndexAt
import Derived.Shelf.Bytes.SlSearch0
import Derived.Shelf.Bytes.SlSearch1
import Derived.Shelf.Bytes.SlSearch2
import Derived.Shelf.Bytes.SlIndexWhole
import Derived.Ground.SlbCloneProg
import Derived.Shelf.Bytes.SlClone
import Derived.Ground.SlbNamesProg
import Derived.Shelf.Bytes.SlJoin
import Derived.Ground.SlgnProg
import Derived.Shelf.SlicesE.Clone
import Derived.Shelf.Bytes.SlEqualAll
import Derived.Shelf.Bytes.Small
import Derived.Shelf.Bytes.IndexByte
set_option linter.unusedVariables false
set_option linter.unusedSimpArgs false
namespace Go.Proofs.YtnhckgipdoojeaaGreatDoor.Sx
open Go
def Un (Gs : List Fact) : Nat → Prop := fun k => ∃ g ∈ Gs, g.D k
structure Mem (w : World) (F : List Fact) : Prop where
  fact : ∀ f ∈ F, f.p w
  flt : ∀ f ∈ F, ∀ k, f.D k → k < w.heap.size
  sepf : F.Pairwise (fun f g => f.own = true ∨ g.own = true → ∀ k, f.D k → ¬ g.D k)
def Owns : List Fact → Prop
  | [] => True
  | f :: r => f.own = true ∧ Owns r
theorem Owns.mem : ∀ {l : List Fact}, Owns l → ∀ f ∈ l, f.own = true
  | _ :: _, h, g, hg => by
    rcases List.mem_cons.1 hg with rfl | hg
    · exact h.1
    · exact Owns.mem h.2 g hg
def takeIx (F : List Fact) : List Nat → List Fact
  | [] => []
  | j :: r => match nth F j with | some f => f :: takeIx F r | none => []
def dropIx (js : List Nat) : Nat → List Fact → List Fact
  | _, [] => []
  | i, f :: r => match memb js i with | true => dropIx js (i + 1) r | false => f :: dropIx js (i + 1) r
def nodupB : List Nat → Bool
  | [] => true
  | j :: r => match memb r j with | true => false | false => nodupB r
theorem memb_not {l : List Nat} {y : Nat} (h : memb l y = false) : y ∉ l := by
  induction l with
  | nil => exact List.not_mem_nil
  | cons x r ih =>
    simp only [memb] at h
    cases hb : Nat.beq x y with
    | true => rw [hb] at h; cases h
    | false =>
      rw [hb] at h
      intro q
      rcases List.mem_cons.1 q with rfl | q
      · rw [Nat.beq_refl] at hb; cases hb
      · exact ih h q
theorem takeIx_mem {F : List Fact} : ∀ {js : List Nat} {g : Fact}, g ∈ takeIx F js → ∃ j ∈ js, F[j]? = some g
  | j :: r, g, h => by
    simp only [takeIx] at h
    split at h
    · rename_i f hf
      rw [nth_eq] at hf
      rcases List.mem_cons.1 h with rfl | h
      · exact ⟨j, List.mem_cons_self, hf⟩
      · obtain ⟨i, hi, q⟩ := takeIx_mem h
        exact ⟨i, List.mem_cons_of_mem _ hi, q⟩
    · cases h
theorem dropIx_mem {js : List Nat} : ∀ {F : List Fact} {i : Nat} {g : Fact}, g ∈ dropIx js i F → ∃ k, F[k]? = some g ∧ (i + k) ∉ js
  | f :: r, i, g, h => by
    simp only [dropIx] at h
    cases hb : memb js i with
    | true =>
      rw [hb] at h
      obtain ⟨k, h1, h2⟩ := dropIx_mem h
      exact ⟨k + 1, by simpa using h1, by rw [Nat.add_comm k 1, ← Nat.add_assoc]; exact h2⟩
    | false =>
      rw [hb] at h
      rcases List.mem_cons.1 h with rfl | h
      · exact ⟨0, rfl, memb_not hb⟩
      · obtain ⟨k, h1, h2⟩ := dropIx_mem h
        exact ⟨k + 1, by simpa using h1, by rw [Nat.add_comm k 1, ← Nat.add_assoc]; exact h2⟩
theorem dropIx_sub (js : List Nat) : ∀ (F : List Fact) (i : Nat), List.Sublist (dropIx js i F) F
  | [], _ => List.Sublist.slnil
  | f :: r, i => by
    simp only [dropIx]
    cases memb js i with
    | true => exact (dropIx_sub js r (i + 1)).cons _
    | false => exact (dropIx_sub js r (i + 1)).cons_cons _
section
variable {cx : Cx} {β : Va} {n : Nat} {env : Env} {H : List Bk} {F : List Fact} {a : Act} {w w' : World}
theorem Sat.mem (h : Sat cx β n H F w) : Mem w F := ⟨h.fact, h.flt, h.sepf⟩
theorem Mem.take (h : Mem w F) : ∀ {js : List Nat}, nodupB js = true → Mem w (takeIx F js)
  | [], _ => ⟨fun _ q => (by cases q), fun _ q => (by cases q), List.Pairwise.nil⟩
  | j :: r, hn => by
    simp only [nodupB] at hn
    cases hb : memb r j with
    | true => rw [hb] at hn; cases hn
    | false =>
      rw [hb] at hn
      have ih := Mem.take h hn
      simp only [takeIx]
      split
      · rename_i f hf
        rw [nth_eq] at hf
        have hfm := List.mem_of_getElem? hf
        refine ⟨fun g hg => ?_, fun g hg => ?_, List.pairwise_cons.2 ⟨fun g hg ho k hk hk' => ?_, ih.sepf⟩⟩
        · rcases List.mem_cons.1 hg with rfl | hg
          · exact h.fact _ hfm
          · exact ih.fact g hg
        · rcases List.mem_cons.1 hg with rfl | hg
          · exact h.flt _ hfm
          · exact ih.flt g hg
        · obtain ⟨i, hi, hgi⟩ := takeIx_mem hg
          have hne : j ≠ i := fun q => by subst q; exact memb_not hb hi
          obtain ⟨hjl, rfl⟩ := List.getElem?_eq_some_iff.1 hf
          obtain ⟨hil, rfl⟩ := List.getElem?_eq_some_iff.1 hgi
          have hp := List.pairwise_iff_getElem.1 h.sepf
          rcases Nat.lt_or_gt_of_ne hne with hlt | hgt
          · exact hp j i hjl hil hlt ho k hk hk'
          · exact hp i j hil hjl hgt ho.symm k hk' hk
      · exact ⟨fun _ q => (by cases q), fun _ q => (by cases q), List.Pairwise.nil⟩
theorem Sat.swap (h : Sat cx β n H F w) (js : List Nat) (hown : Owns (takeIx F js)) {Fs : List Fact} (hc : Chg (Un (takeIx F js)) w w') (hm : Mem w' Fs)
    (hD : ∀ f ∈ Fs, ∀ k, f.D k → Un (takeIx F js) k ∨ w.heap.size ≤ k) : Sat cx β n H (Fs ++ dropIx js 0 F) w' := by
  have hfm : ∀ g ∈ takeIx F js, g ∈ F := fun g hg => by obtain ⟨j, _, q⟩ := takeIx_mem hg; exact List.mem_of_getElem? q
  have hdm : ∀ g ∈ dropIx js 0 F, g ∈ F := fun g hg => (dropIx_sub js F 0).subset hg
  have hap : ∀ g ∈ takeIx F js, ∀ d ∈ dropIx js 0 F, ∀ k, g.D k → ¬ d.D k := by
    intro g hg d hd
    obtain ⟨j, hj, hgj⟩ := takeIx_mem hg
    obtain ⟨i, hi, hni⟩ := dropIx_mem hd
    exact h.apart hgj hi (fun q => by subst q; rw [Nat.zero_add] at hni; exact hni hj) (.inl (hown.mem g hg))
  have hS : ∀ k, Un (takeIx F js) k → cx.S k ∨ cx.W0.heap.size ≤ k := fun k ⟨g, hg, hk⟩ => h.fown g (hfm g hg) (hown.mem g hg) k hk
  refine ⟨?_, h.fix, fun b hb => ?_, h.mine, h.inj, h.ltb, fun f hf => ?_, fun f hf k hk => ?_, fun f hf b hb => ?_, fun f hf ho k hk => ?_, List.pairwise_append.2 ⟨hm.sepf, h.sepf.sublist (dropIx_sub js F 0), fun f hf d hd _ k hk hk' => ?_⟩, fun p hp => ⟨?_, (h.pin p hp).2.1, fun f hf => ?_⟩, h.mrk, h.rnd⟩
  · refine ⟨hc.os.trans h.chg.os, hc.tape.trans h.chg.tape, hc.output.trans h.chg.output, Nat.le_trans h.chg.size hc.size, fun k hk hn => ?_⟩
    rw [hc.same k (Nat.lt_of_lt_of_le hk h.chg.size) (fun q => ?_)]
    · exact h.chg.same k hk hn
    · rcases hS k q with q | q
      · exact hn q
      · omega
  · rw [hc.same _ (h.lt hb) (fun ⟨g, hg, hk⟩ => h.sepb g (hfm g hg) b hb hk)]; exact h.blk b hb
  · rcases List.mem_append.1 hf with hf | hf
    · exact hm.fact f hf
    · exact f.st _ _ (fun k hk => hc.same k (h.flt f (hdm f hf) k hk) (fun ⟨g, hg, hk'⟩ => hap g hg f hf k hk' hk)) (h.fact f (hdm f hf))
  · rcases List.mem_append.1 hf with hf | hf
    · exact hm.flt f hf k hk
    · exact Nat.lt_of_lt_of_le (h.flt f (hdm f hf) k hk) hc.size
  · rcases List.mem_append.1 hf with hf | hf
    · intro q
      rcases hD f hf _ q with ⟨g, hg, hk⟩ | q
      · exact h.sepb g (hfm g hg) b hb hk
      · have := h.lt hb; omega
    · exact h.sepb f (hdm f hf) b hb
  · rcases List.mem_append.1 hf with hf | hf
    · rcases hD f hf k hk with q | q
      · exact hS k q
      · exact .inr (Nat.le_trans h.chg.size q)
    · exact h.fown f (hdm f hf) ho k hk
  · rcases hD f hf k hk with ⟨g, hg, q⟩ | q
    · exact hap g hg d hd k q hk'
    · have := h.flt d (hdm d hd) k hk'; omega
  · rw [hc.same _ (h.pinLt hp) (fun ⟨g, hg, hk⟩ => (h.pin p hp).2.2 g (hfm g hg) hk)]; exact (h.pin p hp).1
  · rcases List.mem_append.1 hf with hf | hf
    · intro q
      rcases hD f hf _ q with ⟨g, hg, hk⟩ | q
      · exact (h.pin p hp).2.2 g (hfm g hg) hk
      · have := h.pinLt hp; omega
    · exact (h.pin p hp).2.2 f (hdm f hf)
end
theorem Sat.perm {cx : Cx} {β : Va} {n : Nat} {H : List Bk} {F : List Fact} {w : World} (h : Sat cx β n H F w) (js : List Nat) (hn : nodupB js = true := by rfl) : Sat cx β n H (takeIx F js) w := by
  have hm := h.mem.take hn
  have hfm : ∀ f ∈ takeIx F js, f ∈ F := fun f hf => by obtain ⟨j, _, q⟩ := takeIx_mem hf; exact List.mem_of_getElem? q
  exact ⟨h.chg, h.fix, h.blk, h.mine, h.inj, h.ltb, hm.fact, hm.flt, fun f hf => h.sepb f (hfm f hf), fun f hf => h.fown f (hfm f hf), hm.sepf, fun p hp => ⟨(h.pin p hp).1, (h.pin p hp).2.1, fun f hf => (h.pin p hp).2.2 f (hfm f hf)⟩, h.mrk, h.rnd⟩
def bksLt (n : Nat) : List Bk → Bool
  | [] => true
  | b :: r => match Nat.blt b.id n, allLtL n b.cells with | true, true => bksLt n r | _, _ => false
theorem bksLt_mem {n : Nat} : ∀ {H : List Bk}, bksLt n H = true → ∀ b ∈ H, b.id < n ∧ ∀ x ∈ b.cells, x.lt n
  | b :: r, h, c, hc => by
    simp only [bksLt] at h
    split at h
    · rename_i h1 h2
      rcases List.mem_cons.1 hc with rfl | hc
      · exact ⟨by simpa [Nat.blt_eq] using h1, allLtL_mem h2⟩
      · exact bksLt_mem h c hc
    · cases h
theorem Sat.lower {cx : Cx} {β : Va} {n n' : Nat} {H : List Bk} {F : List Fact} {w : World} (h : Sat cx β n H F w) (hH : bksLt n' H = true := by rfl) (hb : cx.bs.length ≤ n' := by first | exact Nat.zero_le _ | exact Nat.le_refl _ | assumption | exact Nat.le_of_ble_eq_true rfl) : Sat cx β n' H F w :=
  h.recast (Agr.refl _ _) hb (bksLt_mem hH)
theorem Sat.keepB {cx : Cx} {β : Va} {n : Nat} {H : List Bk} {F : List Fact} {w : World} (h : Sat cx β n H F w) {H' : List Bk} (hs : List.Sublist H' H) : Sat cx β n H' F w := h.weaken hs (List.Sublist.refl _)
theorem Ent.sub {cx : Cx} {n n' : Nat} {env env0 env' : Env} {H H' : List Bk} {F F' : List Fact} (h : Ent cx n env0 H F n' env' H' F') (hE : EntE env env0) (hl : envLt n env0 = true := by rfl) : Ent cx n env H F n' env' H' F' :=
  ⟨fun β a w hi => h.run β a w ⟨fun t s ht => hi.ag t s (hE.get t s ht), hi.size, hi.df, envLt_get hl, hi.sat⟩⟩
theorem flat_get {α γ : Type} (f : α → List γ) (k : Nat) (hf : ∀ x, (f x).length = k) : ∀ (l : List α) (i j : Nat) (x : α) (u : γ), l[i]? = some x → (f x)[j]? = some u → (l.flatMap f)[i * k + j]? = some u
  | y :: r, 0, j, x, u, h, hu => by
    obtain rfl : y = x := by simpa using h
    have hj : j < (f y).length := (List.getElem?_eq_some_iff.1 hu).1
    rw [List.flatMap_cons, Nat.zero_mul, Nat.zero_add, List.getElem?_append_left hj]
    exact hu
  | y :: r, i + 1, j, x, u, h, hu => by
    have h' : r[i]? = some x := by simpa using h
    rw [List.flatMap_cons, List.getElem?_append_right (by rw [hf, Nat.succ_mul]; omega), hf, show (i + 1) * k + j - k = i * k + j by rw [Nat.succ_mul]; omega]
    exact flat_get f k hf r i j x u h' hu
theorem Rd.elem {α : Type} {f : α → List Value} {k : Nat} (hf : ∀ x, (f x).length = k) {A : Option Addr} {l : List α} {w : World} (h : Rd k A l.length (l.flatMap f) w) {ad : Addr} (hA : A = some ad) {i : Nat} (hi : i < l.length) : ∀ j u, (f l[i])[j]? = some u → w.cell? ((ad.add (i * k)).add j) = some u := by
  intro j u hu
  obtain ⟨ad', q, hc⟩ := h.2 (by omega)
  rw [hA] at q
  obtain rfl := Option.some.inj q
  rw [add_add']
  exact hc _ _ (flat_get f k hf l i j _ u (List.getElem?_eq_getElem hi) hu)
def Fin (w : World) (Gs : List Fact) (R : Value → List Fact → Prop) (v : Value) (w' : World) : Prop :=
  ∃ Fs, R v Fs ∧ Chg (Un Gs) w w' ∧ Mem w' Fs ∧ Owns Fs ∧ ∀ f ∈ Fs, ∀ k, f.D k → Un Gs k ∨ w.heap.size ≤ k
def Con (P : Program) (f : FuncId) (args : Array Value) (w : World) (Gs : List Fact) (R : Value → List Fact → Prop) : Prop :=
  Calls P f args w fun e w' => ∃ v, e = .returned v ∧ Fin w Gs R v w'
def Pu (P : Program) (f : FuncId) (args : Array Value) (w : World) (v : Value) : Prop := Con P f args w [] fun u Fs => u = v ∧ Fs = []
section
variable {cx : Cx} {β : Va} {n : Nat} {env : Env} {H : List Bk} {F : List Fact} {a : Act} {w w' : World} {dst : Option Tmp} {K : KT} {k : FuncId}
theorem Un.nil : Un [] = None_ := by
  funext k
  simp [Un, None_]
theorem Fin.mono {Gs : List Fact} {R R' : Value → List Fact → Prop} {v : Value} (h : Fin w Gs R v w') (hr : ∀ Fs, R v Fs → R' v Fs) : Fin w Gs R' v w' :=
  let ⟨Fs, h1, h2⟩ := h; ⟨Fs, hr _ h1, h2⟩
theorem Con.mono {P : Program} {args : Array Value} {Gs : List Fact} {R R' : Value → List Fact → Prop} (h : Con P k args w Gs R) (hr : ∀ v Fs, R v Fs → R' v Fs) : Con P k args w Gs R' :=
  Calls.mono h fun _ _ ⟨v, he, hf⟩ => ⟨v, he, hf.mono (hr v)⟩
theorem call_con (js : List Nat) {A : Va → Array Value} {R : Value → List Fact → Prop} (hc : ∀ β w, Sat cx β n H F w → Con cx.P k (A β) w (takeIx F js) R)
    (hk : ∀ v Fs, R v Fs → put cx.N n env H (Fs ++ dropIx js 0 F) dst (ofValue v) K) (hown : Owns (takeIx F js) := by first | exact trivial | exact ⟨rfl, trivial⟩ | exact ⟨rfl, rfl, trivial⟩ | exact ⟨by assumption, trivial⟩) :
    ∀ β w, Sat cx β n H F w → Calls cx.P k (A β) w fun e w' => ∃ v, e = .returned v ∧ Ret cx β n env dst K v w' := fun β w hs =>
  Calls.mono (hc β w hs) fun _ _ ⟨v, he, Fs, hR, hch, hm, _, hD⟩ => ⟨v, he, Ret.mk _ _ (hs.swap js hown hch hm hD) (hk v Fs hR)⟩
theorem call_pu {A : Va → Array Value} {v : Value} (hc : ∀ β w, Sat cx β n H F w → Pu cx.P k (A β) w v) (hk : put cx.N n env H F dst (ofValue v) K) :
    ∀ β w, Sat cx β n H F w → Calls cx.P k (A β) w fun e w' => ∃ v, e = .returned v ∧ Ret cx β n env dst K v w' := fun β w hs =>
  Calls.mono (hc β w hs) fun _ _ ⟨v, he, Fs, ⟨h1, h2⟩, hch, hm, _, hD⟩ => ⟨v, he, by
    subst h1 h2
    exact Ret.mk _ _ (hs.same (by rw [← Un.nil]; exact hch)) hk⟩
theorem con_of_sx {f : FuncId} {fn : Func} {c : Code} {Gs : List Fact} {R : Value → List Fact → Prop} (g : Good cx) (hf : cx.P.funcs[f]? = some fn) (hb : fn.body = some c) (hN : fn.ntmps = cx.N)
    {β : Va} (svs : List SV) (n : Nat) (H : List Bk) (F : List Fact) (hlen : Nat.ble svs.length cx.N = true) (hltB : allLt n svs = true) (hs : Sat cx β n H F w)
    (hw : cwp cx c (fnPost cx fn.results.toList (Fin w Gs R)) n (pairs 0 svs) H F) (hr : cx.rnd = none := by rfl) (hm : β.marks = [] := by rfl) (hp0 : cx.pn = [] := by rfl) :
    Con cx.P f (svs.map (SV.val β)).toArray w Gs R := calls_of_sx g hf hb hN svs n H F hlen hltB hs hw hr hm hp0
theorem Sat.fin {Gs : List Fact} {R : Value → List Fact → Prop} {v : Value} (h : Sat cx β n H F w') (js : List Nat) (hR : R v (takeIx F js)) (hW : cx.W0 = w := by rfl) (hS : cx.S = Un Gs := by rfl)
    (hn : nodupB js = true := by rfl) (hown : Owns (takeIx F js) := by first | exact trivial | exact ⟨rfl, trivial⟩ | exact ⟨rfl, rfl, trivial⟩ | exact ⟨by assumption, trivial⟩) : Fin w Gs R v w' := by
  refine ⟨_, hR, by rw [← hW, ← hS]; exact h.chg, h.mem.take hn, hown, fun f hf k hk => ?_⟩
  obtain ⟨j, _, hj⟩ := takeIx_mem hf
  rw [← hS, ← hW]
  exact h.fown f (List.mem_of_getElem? hj) (hown.mem f hf) k hk
theorem Mem.sat (h : Mem w F) (hW : cx.W0 = w := by rfl) (hS : ∀ f ∈ F, f.own = true → ∀ k, f.D k → cx.S k) (hfix : cx.bs.length ≤ n ∧ ∀ i, i < cx.bs.length → β i = cx.bs.getD i 0)
    (hp : β.pins = [] := by rfl) (hm : β.marks = [] := by rfl) (hr : cx.rnd = none := by rfl) (hpn : cx.pn = [] := by rfl) : Sat cx β n [] F w := by
  have h0 : Sat cx β n [] [] w := Sat.startB hW hfix.1 hfix.2 hp hm hr hpn
  refine ⟨h0.chg, h0.fix, h0.blk, h0.mine, h0.inj, h0.ltb, h.fact, h.flt, fun _ _ b hb => (by cases hb), fun f hf ho k hk => .inl (hS f hf ho k hk), h.sepf, fun p hq => ?_, h0.mrk, h0.rnd⟩
  rw [hp] at hq; cases hq
theorem Sat.noMem (h : Sat cx β n H F w) (g : Fact) (hp : g.p w) (hD : ∀ k, ¬ g.D k) : Sat cx β n H (g :: F) w := h.add (Chg.refl _ _) g hp (fun k hk => (hD k hk).elim)
theorem Sat.nilRow (h : Sat cx β n H F w) (e : TypeId) (size : Nat) : Sat cx β n H (rowF e size (.slice none 0 0) 0 [] :: F) w :=
  h.noMem _ ⟨by simp, .inl ⟨rfl, rfl⟩⟩ (fun k hk => by cases hk)
theorem Sat.ofBk {id : Nat} {ty : TypeId} {cells : List SL} (h : Sat cx β n (⟨id, ty, cells⟩ :: H) F w) : Sat cx β n H (bkF (β id) ty (cells.map (SL.val β)) :: F) w := by
  have hb := h.blk _ List.mem_cons_self
  have h1 := h.weaken (List.sublist_cons_self _ H) (List.Sublist.refl F)
  refine h1.old (bkF (β id) ty (cells.map (SL.val β))) hb (fun k hk => ?_) (fun b hb' q => ?_) (fun _ k hk => ?_) (fun g hg _ k hk q => ?_) (fun p hp q => ?_)
  · obtain rfl : k = β id := hk; exact h.lt (b := ⟨id, ty, cells⟩) List.mem_cons_self
  · exact (List.pairwise_cons.1 h.inj).1 b hb' (Eq.symm q)
  · obtain rfl : k = β id := hk; exact h.mine _ List.mem_cons_self
  · obtain rfl : k = β id := hk; exact h.sepb g hg _ List.mem_cons_self q
  · exact h.pinBk hp List.mem_cons_self (Eq.symm q)
theorem Sat.toBk (h : Sat cx β n H F w) (j : Nat) {b : Nat} {ty : TypeId} {cs : List Value} (hj : nth F j = some (bkF b ty cs)) (id : Nat) (hid : id < n) (hb : β id = b) :
    Sat cx β n (⟨id, ty, cs.map SL.v⟩ :: H) (dropIx [j] 0 F) w := by
  subst hb
  have hj' : F[j]? = some (bkF (β id) ty cs) := by rw [← nth_eq]; exact hj
  have hm := List.mem_of_getElem? hj'
  have hp : w.heap[β id]? = some (.cells cs.toArray ty (0, 0)) := h.fact _ hm
  have h1 := h.weaken (List.Sublist.refl H) (dropIx_sub [j] F 0)
  refine ⟨h1.chg, h1.fix, fun b hb => ?_, fun b hb => ?_, List.pairwise_cons.2 ⟨fun b hb q => ?_, h1.inj⟩, fun b hb => ?_, h1.fact, h1.flt, fun f hf b hb => ?_, h1.fown, h1.sepf, h1.pin, h1.mrk, h1.rnd⟩
  · rcases List.mem_cons.1 hb with rfl | hb
    · rw [hp]; simp [Function.comp_def, SL.val]
    · exact h1.blk b hb
  · rcases List.mem_cons.1 hb with rfl | hb
    · exact h.fown _ hm rfl _ rfl
    · exact h1.mine b hb
  · exact h.sepb _ hm b hb q.symm
  · rcases List.mem_cons.1 hb with rfl | hb
    · refine ⟨hid, fun x hx => ?_⟩
      obtain ⟨y, _, rfl⟩ := List.mem_map.1 hx
      trivial
    · exact h1.ltb b hb
  · rcases List.mem_cons.1 hb with rfl | hb
    · obtain ⟨i, hi, hni⟩ := dropIx_mem hf
      intro q
      exact h.apart hj' hi (fun e => by subst e; simp at hni) (.inl rfl) (β id) rfl q
    · exact h1.sepb f hf b hb
end
#print axioms Sat.toBk
end Go.Proofs.YtnhckgipdoojeaaGreatDoor.Sx

namespace Go.Proofs.YtnhckgipdoojeaaGreatDoor.Sx
open Go
def Opens (P : Program) (w : World) : Nat → TypeId → List Value → Prop
  | 0, _, _ => False
  | fuel + 1, t, cs => match P.underlying t with
    | some .bool => ∃ b, cs = [.bool b]
    | some (.int k) => ∃ n, cs = [.int k n] ∧ (Lit.int k n).wf = true
    | some .string => ∃ s, cs = [.string s] ∧ s.size ≤ maxLen
    | some (.slice e) => ∃ (A : Option Addr) (n c : Nat) (xs : List (List Value)), cs = [.slice A n c] ∧ n ≤ c ∧ c ≤ maxLen ∧ xs.length = n ∧ (A = none → n = 0 ∧ c = 0) ∧ (∀ x ∈ xs, x.length = P.cellsOf e) ∧ Rd (P.cellsOf e) A n xs.flatten w ∧ ∀ x ∈ xs, Opens P w fuel e x
    | some (.struct fs) => cs.length = P.cellsOf t ∧ ∀ f ∈ fs.toList, Opens P w fuel f.type ((cs.drop f.offset).take (P.cellsOf f.type))
    | _ => True
theorem flatten_const {k : Nat} : ∀ {xs : List (List Value)} (_ : ∀ x ∈ xs, x.length = k), xs.flatten.length = xs.length * k ∧ ∀ i j x u, xs[i]? = some x → x[j]? = some u → xs.flatten[i * k + j]? = some u
  | [], _ => ⟨by simp, fun i j x u h => by simp at h⟩
  | y :: r, hx => by
    obtain ⟨h1, h2⟩ := flatten_const (xs := r) (fun x h => hx x (List.mem_cons_of_mem _ h))
    have hy := hx y List.mem_cons_self
    refine ⟨by simp [h1, hy, Nat.succ_mul]; omega, fun i j x u h hu => ?_⟩
    have hj : j < x.length := (List.getElem?_eq_some_iff.1 hu).1
    cases i with
    | zero =>
      obtain rfl : y = x := by simpa using h
      rw [List.flatten_cons, Nat.zero_mul, Nat.zero_add, List.getElem?_append_left hj]
      exact hu
    | succ i =>
      have h' : r[i]? = some x := by simpa using h
      rw [List.flatten_cons, List.getElem?_append_right (by rw [hy, Nat.succ_mul]; omega), hy, show (i + 1) * k + j - k = i * k + j by rw [Nat.succ_mul]; omega]
      exact h2 i j x u h' hu
theorem opens_of {H : Type} {enc : TypeId × Value → H} {P : Program} {w : World} {base : Nat} {sp : Nat → Bool} {held : Bool} : ∀ (fuel : Nat) (t : TypeId) (cs : List Value) (x : DataW H × List MemPlace),
    DataW.trod enc P w base sp held fuel t cs = some x → Opens P w fuel t cs
  | 0, _, _, _, h => by cases h
  | fuel + 1, t, cs, x, h => by
    unfold Opens
    split
    · rename_i ht
      unfold DataW.trod at h
      rw [ht] at h
      split at h <;> simp_all
    · rename_i k ht
      unfold DataW.trod at h
      rw [ht] at h
      split at h <;> simp_all
    · rename_i ht
      unfold DataW.trod at h
      rw [ht] at h
      split at h <;> simp_all
    · rename_i e ht
      rcases DataW.trod_slice ht h with ⟨rfl, _⟩ | ⟨a, len, cap, elems, rest, m, hf, rfl, _, _, h1, h2, h3, hel, _, _⟩
      · exact ⟨none, 0, 0, [], rfl, Nat.le_refl _, Nat.zero_le _, rfl, (fun _ => ⟨rfl, rfl⟩), (fun _ q => by cases q), ⟨by simp, fun q => absurd q (Nat.lt_irrefl _)⟩, fun _ q => by cases q⟩
      · obtain rfl : fuel = m := by omega
        have each : ∀ i, i < len → ∃ cs, w.cells? base (a.add (i * P.cellsOf e)) (P.cellsOf e) = some cs ∧ Opens P w fuel e cs := by
          intro i hi
          have hq := hel i hi
          rw [List.getElem?_eq_getElem (by omega)] at hq
          obtain ⟨cs, hc, hd⟩ := Option.bind_eq_some_iff.1 hq
          exact ⟨cs, hc, opens_of fuel e cs _ hd⟩
        obtain ⟨xs, hxl, hx⟩ : ∃ xs : List (List Value), xs.length = len ∧ ∀ i, i < len → ∃ cs, xs[i]? = some cs ∧ w.cells? base (a.add (i * P.cellsOf e)) (P.cellsOf e) = some cs ∧ Opens P w fuel e cs := by
          revert each
          clear h hel h1 h2 h3
          intro each
          rename_i q1 q2
          clear q1 q2
          induction len with
          | zero => exact ⟨[], rfl, fun i hi => absurd hi (Nat.not_lt_zero _)⟩
          | succ len ih =>
            obtain ⟨xs, h1, h2⟩ := ih (fun i hi => each i (by omega))
            obtain ⟨cs, h3, h4⟩ := each len (by omega)
            refine ⟨xs ++ [cs], by simp [h1], fun i hi => ?_⟩
            rcases Nat.lt_or_ge i len with hlt | hge
            · obtain ⟨c, q1, q2⟩ := h2 i hlt
              exact ⟨c, by rw [List.getElem?_append_left (by omega)]; exact q1, q2⟩
            · obtain rfl : i = len := by omega
              exact ⟨cs, by rw [List.getElem?_append_right (by omega)]; simp [h1], h3, h4⟩
        have hlen : ∀ x ∈ xs, x.length = P.cellsOf e := by
          intro x hx'
          obtain ⟨i, hi⟩ := List.getElem?_of_mem hx'
          have hil := (List.getElem?_eq_some_iff.1 hi).1
          obtain ⟨c, q1, q2, _⟩ := hx i (by omega)
          rw [hi] at q1
          obtain rfl := Option.some.inj q1
          exact (World.cells?_some q2).2.1
        obtain ⟨f1, f2⟩ := flatten_const hlen
        refine ⟨some a, len, cap, xs, rfl, h1, h2, hxl, (fun q => by cases q), hlen, ⟨by rw [f1, hxl], fun _ => ⟨a, rfl, fun j u hu => ?_⟩⟩, fun x hx' => ?_⟩
        · have hj := (List.getElem?_eq_some_iff.1 hu).1
          rw [f1, hxl] at hj
          have hpos : 0 < P.cellsOf e := Nat.pos_of_ne_zero (fun q => by rw [q, Nat.mul_zero] at hj; exact Nat.not_lt_zero _ hj)
          have hdl : j / P.cellsOf e < len := Nat.div_lt_of_lt_mul (by rw [Nat.mul_comm]; exact hj)
          have hml : j % P.cellsOf e < P.cellsOf e := Nat.mod_lt _ hpos
          obtain ⟨c, q1, q2, _⟩ := hx _ hdl
          have hcl := (World.cells?_some q2).2.1
          have hcc := (World.cells?_some q2).2.2 _ hml
          have hjj : j / P.cellsOf e * P.cellsOf e + j % P.cellsOf e = j := by rw [Nat.mul_comm]; exact Nat.div_add_mod j _
          rw [add_add', hjj] at hcc
          have := f2 _ (j % P.cellsOf e) c _ q1 (List.getElem?_eq_getElem (by omega))
          rw [hjj, hu] at this
          rw [hcc, List.getElem?_eq_getElem (by omega), this]
        · obtain ⟨i, hi⟩ := List.getElem?_of_mem hx'
          have hil := (List.getElem?_eq_some_iff.1 hi).1
          obtain ⟨c, q1, _, q3⟩ := hx i (by omega)
          rw [hi] at q1
          obtain rfl := Option.some.inj q1
          exact q3
    · rename_i fs ht
      obtain ⟨xs, m, hf, _, hl, hxl, hx⟩ := DataW.trod_struct ht h
      obtain rfl : fuel = m := by omega
      refine ⟨hl, fun f hf => ?_⟩
      obtain ⟨i, hi⟩ := List.getElem?_of_mem hf
      have hil : i < fs.size := by have := (List.getElem?_eq_some_iff.1 hi).1; simpa using this
      have hq := hx i f (by simpa using hi)
      rw [List.getElem?_eq_getElem (by omega)] at hq
      exact opens_of fuel f.type _ _ hq
    · trivial
theorem flat_one {α : Type} (f : α → Value) : ∀ (l : List α), l.flatMap (fun b => [f b]) = l.map f
  | [] => rfl
  | b :: r => by rw [List.flatMap_cons, List.map_cons, flat_one f r]; rfl
theorem list_choose {α : Type} {f : α → List Value} {p : α → Prop} : ∀ {xs : List (List Value)}, (∀ x ∈ xs, ∃ a, x = f a ∧ p a) → ∃ ys : List α, ys.length = xs.length ∧ xs.flatten = ys.flatMap f ∧ ∀ a ∈ ys, p a
  | [], _ => ⟨[], rfl, rfl, fun _ h => by cases h⟩
  | x :: r, h => by
    obtain ⟨a, rfl, ha⟩ := h x List.mem_cons_self
    obtain ⟨ys, h0, h1, h2⟩ := list_choose (xs := r) (fun x hx => h x (List.mem_cons_of_mem _ hx))
    refine ⟨a :: ys, by simp [h0], by rw [List.flatten_cons, h1, List.flatMap_cons], fun b hb => ?_⟩
    rcases List.mem_cons.1 hb with rfl | hb
    · exact ha
    · exact h2 b hb
section
variable {P : Program} {w : World} {fuel : Nat} {t : TypeId} {cs : List Value}
theorem Opens.bool (h : Opens P w fuel t cs) (ht : P.underlying t = some .bool) : ∃ b, cs = [.bool b] := by
  cases fuel with
  | zero => exact h.elim
  | succ fuel => simp only [Opens, ht] at h; exact h
theorem Opens.int {k : IntKind} (h : Opens P w fuel t cs) (ht : P.underlying t = some (.int k)) : ∃ n, cs = [.int k n] ∧ k.min ≤ n ∧ n ≤ k.max := by
  cases fuel with
  | zero => exact h.elim
  | succ fuel =>
    simp only [Opens, ht] at h
    obtain ⟨n, h1, h2⟩ := h
    have h3 : k.min ≤ n ∧ n ≤ k.max := by simpa [Lit.wf] using h2
    exact ⟨n, h1, h3⟩
theorem Opens.u8 (h : Opens P w fuel t cs) (ht : P.underlying t = some (.int .u8)) : ∃ b : UInt8, cs = [byte b] := by
  obtain ⟨n, rfl, h1, h2⟩ := h.int ht
  refine ⟨UInt8.ofNat n.toNat, ?_⟩
  have h3 : 0 ≤ n := h1
  have h4 : n ≤ 255 := h2
  unfold byte
  rw [UInt8.toNat_ofNat']
  congr 2
  omega
theorem Opens.slice {e : TypeId} (h : Opens P w fuel t cs) (ht : P.underlying t = some (.slice e)) : ∃ (A : Option Addr) (n c : Nat) (xs : List (List Value)) (m : Nat), cs = [.slice A n c] ∧ n ≤ c ∧ c ≤ maxLen ∧ xs.length = n ∧ (A = none → n = 0 ∧ c = 0) ∧ (∀ x ∈ xs, x.length = P.cellsOf e) ∧ Rd (P.cellsOf e) A n xs.flatten w ∧ ∀ x ∈ xs, Opens P w m e x := by
  cases fuel with
  | zero => exact h.elim
  | succ fuel =>
    simp only [Opens, ht] at h
    obtain ⟨A, n, c, xs, r⟩ := h
    exact ⟨A, n, c, xs, fuel, r⟩
theorem Opens.struct {fs : Array Field} (h : Opens P w fuel t cs) (ht : P.underlying t = some (.struct fs)) : ∃ m, cs.length = P.cellsOf t ∧ ∀ f ∈ fs.toList, Opens P w m f.type ((cs.drop f.offset).take (P.cellsOf f.type)) := by
  cases fuel with
  | zero => exact h.elim
  | succ fuel => simp only [Opens, ht] at h; exact ⟨fuel, h⟩
theorem Opens.bytes {e : TypeId} (h : Opens P w fuel t cs) (ht : P.underlying t = some (.slice e)) (he : P.underlying e = some (.int .u8)) (hc : P.cellsOf e = 1) : ∃ (A : Option Addr) (p : List UInt8) (c : Nat), cs = [.slice A p.length c] ∧ p.length ≤ c ∧ c ≤ maxLen ∧ Bs w A p := by
  obtain ⟨A, n, c, xs, m, rfl, h1, h2, rfl, _, _, hr, hx⟩ := h.slice ht
  obtain ⟨p, hpl, hp, _⟩ := list_choose (f := fun b => [byte b]) (p := fun _ => True) (xs := xs) (fun x hx' => by obtain ⟨b, rfl⟩ := (hx x hx').u8 he; exact ⟨b, rfl, trivial⟩)
  have hf : p.flatMap (fun b => [byte b]) = p.map byte := flat_one byte p
  rw [hc, hp, hf] at hr
  rw [← hpl] at hr h1 ⊢
  exact ⟨A, p, c, rfl, h1, h2, hr⟩
end
end Go.Proofs.YtnhckgipdoojeaaGreatDoor.Sx

namespace Go.Proofs.YtnhckgipdoojeaaGreatDoor.Sx
open Go
def heldF (β : Va) (H : List Bk) (F : List Fact) (ps : List (Nat × Obj)) : Fact where
  own := true
  D := fun k => (∃ b ∈ H, β b.id = k) ∨ (∃ f ∈ F, f.D k) ∨ (∃ p ∈ ps, p.1 = k)
  p := fun w => (∀ b ∈ H, w.heap[β b.id]? = some (.cells (b.cells.map (SL.val β)).toArray b.ty (0, 0))) ∧ (∀ f ∈ F, f.p w) ∧ (∀ p ∈ ps, w.heap[p.1]? = some p.2)
  st := fun w w' hs h => ⟨fun b hb => by rw [hs _ (.inl ⟨b, hb, rfl⟩)]; exact h.1 b hb, fun f hf => f.st w w' (fun k hk => hs k (.inr (.inl ⟨f, hf, hk⟩))) (h.2.1 f hf), fun p hp => by rw [hs _ (.inr (.inr ⟨p, hp, rfl⟩))]; exact h.2.2 p hp⟩
def readF (Fs : List Fact) : Fact where
  own := false
  D := Un Fs
  p := fun w => ∀ f ∈ Fs, f.p w
  st := fun w w' hs h f hf => f.st w w' (fun k hk => hs k ⟨f, hf, hk⟩) (h f hf)
structure Sta (β : Va) (n : Nat) (H : List Bk) (F : List Fact) (ps : List (Nat × Obj)) : Prop where
  inj : H.Pairwise (fun b c => β b.id ≠ β c.id)
  ltb : ∀ b ∈ H, b.id < n ∧ ∀ x ∈ b.cells, x.lt n
  sepb : ∀ f ∈ F, ∀ b ∈ H, ¬ f.D (β b.id)
  sepf : F.Pairwise (fun f g => f.own = true ∨ g.own = true → ∀ k, f.D k → ¬ g.D k)
  own : Owns F
  pinf : ∀ p ∈ ps, p.2.isCells = false ∧ ∀ f ∈ F, ¬ f.D p.1
def gv (X : Fact) : List Fact := match X.own with | true => [X] | false => []
theorem gv_own {X : Fact} (h : X.own = true) : gv X = [X] := by unfold gv; rw [h]
theorem gv_not {X : Fact} (h : X.own = false) : gv X = [] := by unfold gv; rw [h]
def Yc {α : Type} (P : Program) (l : Nat) (J Jx : List α → Fact → Prop) (R : Fact) (ins : List α → α → Array Value → Fact → Prop) : Prop :=
  ∀ (pre : List α) (x : α) (f : Fact) (w : World) (args : Array Value) (X : Fact), J pre f → Mem w [f, R, X] → ins pre x args X →
    Yld P l args w fun v w' => ∃ f', Chg (Un (f :: gv X)) w w' ∧ f'.own = true ∧ f'.p w' ∧ (∀ k, f'.D k → (Un (f :: gv X) k ∨ w.heap.size ≤ k) ∧ k < w'.heap.size) ∧
      ((v = .bool true ∧ J (pre ++ [x]) f') ∨ (v = .bool false ∧ Jx (pre ++ [x]) f'))
abbrev rcx (cx : Cx) (w : World) (S : Nat → Prop) (l : Nat) (bs : List Nat) (pn : List (Nat × Obj)) : Cx := ⟨cx.P, w, S, cx.N, cx.tt, cx.fns, bs, some l, pn⟩
theorem rcx_good {cx : Cx} (g : Good cx) {w : World} {S : Nat → Prop} {l : Nat} {bs : List Nat} {pn : List (Nat × Obj)} : Good (rcx cx w S l bs pn) := ⟨g.ok, g.fn, g.mixed⟩
def bindP (N : Nat) : List Tmp → List Value → Env → Option Env
  | [], [], e => some e
  | t :: ts, v :: vs, e => match Nat.blt t N with | true => bindP N ts vs ((t, ofValue v) :: e) | false => none
  | _, _, _ => none
def norm (k : KT) : Exit → KT
  | .normal => k
  | _ => fun _ _ _ _ => False
def jumpOf : Exit → Option Code
  | .ret => some .ret
  | .exit id => some (.exit id)
  | _ => none
section
variable {cx : Cx} {β : Va} {n : Nat} {env : Env} {H : List Bk} {F : List Fact} {a : Act} {w w' : World}
theorem bindP_ag {N : Nat} : ∀ (ts : List Tmp) (vs : List Value) (e e' : Env) (tmps : Array Value), bindP N ts vs e = some e' → tmps.size = N → (∀ t s, get e t = some s → tmps[t]? = some (s.val β)) → (∀ t s, get e t = some s → s.lt n) →
    (((ts.zip vs).foldl (fun t (q : Tmp × Value) => t.setIfInBounds q.1 q.2) tmps).size = N) ∧ (∀ t s, get e' t = some s → ((ts.zip vs).foldl (fun t (q : Tmp × Value) => t.setIfInBounds q.1 q.2) tmps)[t]? = some (s.val β)) ∧ (∀ t s, get e' t = some s → s.lt n) ∧ ts.length = vs.length
  | [], [], e, e', tmps, h, hN, hag, hlt => by
    simp only [bindP, Option.some.injEq] at h
    subst h
    exact ⟨hN, hag, hlt, rfl⟩
  | t :: ts, v :: vs, e, e', tmps, h, hN, hag, hlt => by
    simp only [bindP] at h
    cases hb : Nat.blt t N with
    | false => rw [hb] at h; cases h
    | true =>
      rw [hb] at h
      have ht : t < N := by simpa [Nat.blt_eq] using hb
      have := bindP_ag ts vs _ e' (tmps.setIfInBounds t v) h (by simp [hN]) ?_ ?_
      · exact ⟨this.1, this.2.1, this.2.2.1, by simp [this.2.2.2]⟩
      · intro u s hu
        by_cases htu : t = u
        · subst htu
          rw [get_same] at hu
          obtain rfl := Option.some.inj hu
          rw [Array.getElem?_setIfInBounds]
          simp [hN, ht, ofValue_val]
        · rw [get_other _ _ htu] at hu
          rw [Array.getElem?_setIfInBounds_ne htu]
          exact hag u s hu
      · intro u s hu
        by_cases htu : t = u
        · subst htu
          rw [get_same] at hu
          obtain rfl := Option.some.inj hu
          exact ofValue_lt _ _
        · rw [get_other _ _ htu] at hu
          exact hlt u s hu
  | [], _ :: _, _, _, _, h, _, _, _ => by cases h
  | _ :: _, [], _, _, _, h, _, _, _ => by cases h
theorem Mem.three {f R X : Fact} {w : World} (hf : f.own = true) (_hR : R.own = false) (h : Mem w [f, R, X]) : f.p w ∧ R.p w ∧ X.p w ∧ (∀ k, f.D k → k < w.heap.size) ∧ (∀ k, R.D k → k < w.heap.size) ∧ (∀ k, X.D k → k < w.heap.size) ∧ (∀ k, f.D k → ¬ R.D k) ∧ (∀ k, f.D k → ¬ X.D k) ∧ (X.own = true → ∀ k, R.D k → ¬ X.D k) := by
  have h1 := List.pairwise_cons.1 h.sepf
  have h2 := List.pairwise_cons.1 h1.2
  exact ⟨h.fact f (by simp), h.fact R (by simp), h.fact X (by simp), h.flt f (by simp), h.flt R (by simp), h.flt X (by simp), h1.1 R (by simp) (.inl hf), h1.1 X (by simp) (.inl hf), fun q => h2.1 X (by simp) (.inr q)⟩
theorem round_sat {Fr : List Fact} {X : Fact} {ps : List (Nat × Obj)} (hst : Sta β n H F ps) (hFr : ∀ g ∈ Fr, g.own = false)
    (hm : Mem w [heldF β H F ps, readF Fr, X]) {n0 : Nat} (hn : n0 ≤ n) {bs : List Nat} (hbs : bs.length = n0) (hbi : ∀ i, i < n0 → β i = bs.getD i 0) {l : Nat} {r : Loop} (hl : (l, Obj.loop r) ∈ ps) (hps : β.pins = ps) (hmk : β.marks = []) :
    Sat (rcx cx w (Un (heldF β H F ps :: gv X)) l bs ps) β n H (X :: F ++ Fr) w := by
  obtain ⟨h1, h2, h3, h4, h5, h6, h7, h8, h9⟩ := hm.three rfl rfl
  have inS : ∀ k, (heldF β H F ps).D k → Un (heldF β H F ps :: gv X) k := fun k hk => ⟨_, List.mem_cons_self, hk⟩
  have hmemF : ∀ f ∈ X :: F ++ Fr, f = X ∨ f ∈ F ∨ f ∈ Fr := by
    intro f hf
    rcases List.mem_append.1 hf with hf | hf
    · rcases List.mem_cons.1 hf with rfl | hf
      · exact .inl rfl
      · exact .inr (.inl hf)
    · exact .inr (.inr hf)
  refine ⟨Chg.refl _ _, ⟨by show bs.length ≤ n; omega, fun i hi => hbi i (by rw [← hbs]; exact hi)⟩, h1.1, fun b hb => .inl (inS _ (.inl ⟨b, hb, rfl⟩)), hst.inj, hst.ltb, fun f hf => ?_, fun f hf k hk => ?_, fun f hf b hb q => ?_, fun f hf ho k hk => ?_, ?_, fun p hp => ?_, ⟨by rw [hmk]; exact List.nodup_nil, fun q hq => by rw [hmk] at hq; cases hq⟩, ⟨fun p hp => by rw [hps]; exact hp, fun l' hl' => ⟨hmk, r, by rw [hps]; obtain rfl : l = l' := Option.some.inj hl'; exact hl⟩⟩⟩
  · rcases hmemF f hf with rfl | hf | hf
    · exact h3
    · exact h1.2.1 f hf
    · exact h2 f hf
  · rcases hmemF f hf with rfl | hf | hf
    · exact h6 k hk
    · exact h4 k (.inr (.inl ⟨f, hf, hk⟩))
    · exact h5 k ⟨f, hf, hk⟩
  · rcases hmemF f hf with rfl | hf | hf
    · exact h8 _ (.inl ⟨b, hb, rfl⟩) q
    · exact hst.sepb f hf b hb q
    · exact h7 _ (.inl ⟨b, hb, rfl⟩) ⟨f, hf, q⟩
  · rcases hmemF f hf with rfl | hf | hf
    · exact .inl ⟨f, List.mem_cons_of_mem _ (by rw [gv_own ho]; exact List.mem_singleton.2 rfl), hk⟩
    · exact .inl (inS _ (.inr (.inl ⟨f, hf, hk⟩)))
    · rw [hFr f hf] at ho; cases ho
  · refine List.pairwise_append.2 ⟨List.pairwise_cons.2 ⟨fun g hg _ k hk hk' => h8 k (.inr (.inl ⟨g, hg, hk'⟩)) hk, hst.sepf⟩, ?_, fun f hf g hg ho k hk hk' => ?_⟩
    · refine List.pairwise_iff_getElem.2 fun i j hi hj _ ho => ?_
      rw [hFr _ (List.getElem_mem hi), hFr _ (List.getElem_mem hj)] at ho
      rcases ho with q | q <;> cases q
    · rcases List.mem_cons.1 hf with rfl | hf
      · rw [hFr g hg] at ho
        exact h9 (ho.resolve_right (by decide)) k ⟨g, hg, hk'⟩ hk
      · exact h7 k (.inr (.inl ⟨f, hf, hk⟩)) ⟨g, hg, hk'⟩
  · rw [hps] at hp
    refine ⟨h1.2.2 p hp, (hst.pinf p hp).1, fun f hf q => ?_⟩
    rcases hmemF f hf with rfl | hf | hf
    · exact h8 _ (.inr (.inr ⟨p, hp, rfl⟩)) q
    · exact (hst.pinf p hp).2 f hf q
    · exact h7 _ (.inr (.inr ⟨p, hp, rfl⟩)) ⟨f, hf, q⟩
theorem Sat.repin {W0 : World} {S : Nat → Prop} {l : Nat} {bs : List Nat} {o o' : Obj} {P0 : List (Nat × Obj)} (h : Sat (rcx cx W0 S l bs ((l, o) :: P0)) β n H F w) (ho' : o'.isCells = false) (hr : ∃ r, o' = Obj.loop r) (hP : ∀ p ∈ P0, p.1 ≠ l) (hS : S l) :
    Sat (rcx cx W0 S l bs ((l, o') :: P0)) ⟨β.b, (l, o') :: P0, []⟩ n H F (w.putObj l o') := by
  have hlp : (l, o) ∈ β.pins := h.rnd.1 _ List.mem_cons_self
  have hlf : ∀ f ∈ F, ¬ f.D l := (h.pin _ hlp).2.2
  have hll : l < w.heap.size := h.pinLt hlp
  have hoth : ∀ k, k ≠ l → (w.putObj l o').heap[k]? = w.heap[k]? := fun k hk => World.putObj_heap_other hk
  refine ⟨⟨h.chg.os, h.chg.tape, h.chg.output, by rw [World.putObj_size]; exact h.chg.size, fun k hk hs => ?_⟩, h.fix, fun b hb => ?_, h.mine, h.inj, h.ltb, fun f hf => ?_, fun f hf k hk => ?_, h.sepb, h.fown, h.sepf, fun p hp => ?_, ⟨List.nodup_nil, fun q hq => by cases hq⟩, ⟨fun p hp => hp, fun l' hl' => ⟨rfl, ?_⟩⟩⟩
  · rw [hoth k (fun q => hs (q ▸ hS))]; exact h.chg.same k hk hs
  · rw [hoth _ (h.pinBk hlp hb)]; exact h.blk b hb
  · exact f.st _ _ (fun k hk => hoth k (fun q => by subst q; exact hlf f hf hk)) (h.fact f hf)
  · rw [World.putObj_size]; exact h.flt f hf k hk
  · rcases List.mem_cons.1 hp with rfl | hp
    · exact ⟨World.putObj_heap_same hll, ho', hlf⟩
    · have := h.pin p (h.rnd.1 p (List.mem_cons_of_mem _ hp))
      exact ⟨by rw [hoth _ (hP p hp)]; exact this.1, this.2⟩
  · obtain ⟨r, rfl⟩ := hr
    obtain rfl : l = l' := Option.some.inj hl'
    exact ⟨r, List.mem_cons_self⟩
theorem round_end {W0 : World} {S : Nat → Prop} {l : Nat} {bs : List Nat} {o o' : Obj} {P0 : List (Nat × Obj)} (h : Sat (rcx cx W0 S l bs ((l, o) :: P0)) β n H F w) (hown : Owns F) (ho : ∃ r, o' = Obj.loop r) (hP : ∀ p ∈ P0, p.1 ≠ l) (hS : ∀ p ∈ (l, o) :: P0, S p.1) :
    Chg S W0 (w.putObj l o') ∧ (heldF β H F ((l, o') :: P0)).p (w.putObj l o') ∧ (∀ k, (heldF β H F ((l, o') :: P0)).D k → (S k ∨ W0.heap.size ≤ k) ∧ k < (w.putObj l o').heap.size) ∧ Sta β n H F ((l, o') :: P0) := by
  have h' := h.repin (by obtain ⟨r, rfl⟩ := ho; rfl) ho hP (hS _ List.mem_cons_self)
  refine ⟨h'.chg, ⟨h'.blk, h'.fact, fun p hp => (h'.pin p hp).1⟩, fun k hk => ?_, ⟨h.inj, h.ltb, h.sepb, h.sepf, hown, fun p hp => (h'.pin p hp).2⟩⟩
  rcases hk with ⟨b, hb, rfl⟩ | ⟨f, hf, hk⟩ | ⟨p, hp, rfl⟩
  · exact ⟨h'.mine b hb, h'.lt hb⟩
  · exact ⟨h'.fown f hf (hown.mem f hf) k hk, h'.flt f hf k hk⟩
  · refine ⟨.inl ?_, h'.pinLt hp⟩
    rcases List.mem_cons.1 hp with rfl | hp
    · exact hS (l, o) List.mem_cons_self
    · exact hS p (List.mem_cons_of_mem _ hp)
theorem range_end {β0 β' : Va} {H0 Hn : List Bk} {Gi Ri F0 Fr Fn Fs : List Fact} {w1 w2 : World} {l : Nat} {o o' o2 : Obj} {P0 : List (Nat × Obj)} {mks : List Nat} {n0 : Nat}
    (hs : Sat cx β0 n H0 (Gi ++ (Ri ++ (F0 ++ Fr))) w) (hGi : Owns Gi) (hF0 : Owns F0)
    (hc1 : Chg None_ w w1) (hl : w.heap.size ≤ l) (hP0 : ∀ p ∈ P0, w1.heap[p.1]? = some p.2 ∧ p.2.isCells = false ∧ p.1 ≠ l ∧ (p ∈ β0.pins ∨ w.heap.size ≤ p.1)) (hPb : ∀ p ∈ β0.pins, p ∈ P0)
    (hc2 : Chg (Un (heldF β0 H0 F0 ((l, o) :: P0) :: Gi)) w1 w2) (hm : Mem w2 (heldF β' Hn Fn ((l, o') :: P0) :: Fs))
    (hD : ∀ f ∈ heldF β' Hn Fn ((l, o') :: P0) :: Fs, ∀ k, f.D k → Un (heldF β0 H0 F0 ((l, o) :: P0) :: Gi) k ∨ w1.heap.size ≤ k) (hst : Sta β' n Hn Fn ((l, o') :: P0))
    (hn0 : cx.bs.length ≤ n0) (hag : ∀ i, i < n0 → β' i = β0 i) (hmk : mks.Nodup ∧ ∀ r ∈ mks, (r, Obj.deferred (some [])) ∈ P0 ∧ cx.W0.heap.size ≤ r) (hmr : ∀ l', cx.rnd = some l' → mks = []) :
    Sat cx ⟨β'.b, P0, mks⟩ n Hn (Fs ++ (Fn ++ Fr)) (w2.putObj l o2) := by
  obtain ⟨sG, sRest, cG⟩ := List.pairwise_append.1 hs.sepf
  obtain ⟨_, sRest2, _⟩ := List.pairwise_append.1 sRest
  obtain ⟨sF0, sFr, cF0⟩ := List.pairwise_append.1 sRest2
  have mG : ∀ g ∈ Gi, g ∈ Gi ++ (Ri ++ (F0 ++ Fr)) := fun g hg => by simp [hg]
  have mF0 : ∀ g ∈ F0, g ∈ Gi ++ (Ri ++ (F0 ++ Fr)) := fun g hg => by simp [hg]
  have mFr : ∀ g ∈ Fr, g ∈ Gi ++ (Ri ++ (F0 ++ Fr)) := fun g hg => by simp [hg]
  have hfp := hm.fact _ List.mem_cons_self
  obtain ⟨hfs, hfd⟩ := List.pairwise_cons.1 hm.sepf
  have hoth : ∀ k, k ≠ l → (w2.putObj l o2).heap[k]? = w2.heap[k]? := fun k hk => World.putObj_heap_other hk
  have hsz : w.heap.size ≤ w1.heap.size := hc1.size
  have D1 : ∀ k, Un (heldF β0 H0 F0 ((l, o) :: P0) :: Gi) k → (∃ b ∈ H0, β0 b.id = k) ∨ (∃ g ∈ F0, g.D k) ∨ k = l ∨ (∃ p ∈ P0, p.1 = k) ∨ (∃ g ∈ Gi, g.D k) := by
    rintro k ⟨g, hg, hk⟩
    rcases List.mem_cons.1 hg with rfl | hg
    · rcases hk with q | q | ⟨p, hp, q⟩
      · exact .inl q
      · exact .inr (.inl q)
      · rcases List.mem_cons.1 hp with rfl | hp
        · exact .inr (.inr (.inl q.symm))
        · exact .inr (.inr (.inr (.inl ⟨p, hp, q⟩)))
    · exact .inr (.inr (.inr (.inr ⟨g, hg, hk⟩)))
  have D2 : ∀ k, Un (heldF β0 H0 F0 ((l, o) :: P0) :: Gi) k ∨ w1.heap.size ≤ k → k ≠ l → (∀ p ∈ P0, p.1 ≠ k) → (cx.S k ∨ cx.W0.heap.size ≤ k) ∧ ∀ g ∈ Fr, ¬ g.D k := by
    intro k hk hkl hkp
    rcases hk with hk | hk
    · rcases D1 k hk with ⟨b, hb, rfl⟩ | ⟨g, hg, q⟩ | q | ⟨p, hp, q⟩ | ⟨g, hg, q⟩
      · exact ⟨hs.mine b hb, fun d hd => hs.sepb d (mFr d hd) b hb⟩
      · exact ⟨hs.fown g (mF0 g hg) (hF0.mem g hg) k q, fun d hd => cF0 g hg d hd (.inl (hF0.mem g hg)) k q⟩
      · exact (hkl q).elim
      · exact (hkp p hp q).elim
      · exact ⟨hs.fown g (mG g hg) (hGi.mem g hg) k q, fun d hd => cG g hg d (by simp [hd]) (.inl (hGi.mem g hg)) k q⟩
    · exact ⟨.inr (Nat.le_trans hs.chg.size (Nat.le_trans hsz hk)), fun d hd q => by have := hs.flt d (mFr d hd) k q; omega⟩
  have pinO : ∀ p ∈ ((l, o') :: P0), w2.heap[p.1]? = some p.2 ∧ p.2.isCells = false := fun p hp => ⟨hfp.2.2 p hp, (hst.pinf p hp).1⟩
  have bkNP : ∀ b ∈ Hn, β' b.id ≠ l ∧ ∀ p ∈ P0, p.1 ≠ β' b.id := by
    intro b hb
    have h1 := hfp.1 b hb
    have key : ∀ p ∈ ((l, o') :: P0), p.1 ≠ β' b.id := by
      intro p hp q
      have h2 := pinO p hp
      rw [q, h1] at h2
      have h3 := h2.2
      rw [← Option.some.inj h2.1] at h3
      cases h3
    exact ⟨fun q => key (l, o') List.mem_cons_self q.symm, fun p hp => key p (List.mem_cons_of_mem _ hp)⟩
  have fnNP : ∀ f ∈ Fn, ∀ k, f.D k → k ≠ l ∧ ∀ p ∈ P0, p.1 ≠ k := fun f hf k hk => ⟨fun q => (hst.pinf (l, o') List.mem_cons_self).2 f hf (q ▸ hk), fun p hp q => (hst.pinf p (List.mem_cons_of_mem _ hp)).2 f hf (q ▸ hk)⟩
  have fsNP : ∀ f ∈ Fs, ∀ k, f.D k → k ≠ l ∧ ∀ p ∈ P0, p.1 ≠ k := fun f hf k hk => ⟨fun q => hfs f hf (.inl rfl) k (.inr (.inr ⟨(l, o'), List.mem_cons_self, q.symm⟩)) hk, fun p hp q => hfs f hf (.inl rfl) k (.inr (.inr ⟨p, List.mem_cons_of_mem _ hp, q⟩)) hk⟩
  have bkD : ∀ b ∈ Hn, (cx.S (β' b.id) ∨ cx.W0.heap.size ≤ β' b.id) ∧ ∀ g ∈ Fr, ¬ g.D (β' b.id) := fun b hb => D2 _ (hD _ List.mem_cons_self _ (.inl ⟨b, hb, rfl⟩)) (bkNP b hb).1 (bkNP b hb).2
  have fnD : ∀ f ∈ Fn, ∀ k, f.D k → (cx.S k ∨ cx.W0.heap.size ≤ k) ∧ ∀ g ∈ Fr, ¬ g.D k := fun f hf k hk => D2 _ (hD _ List.mem_cons_self _ (.inr (.inl ⟨f, hf, hk⟩))) (fnNP f hf k hk).1 (fnNP f hf k hk).2
  have fsD : ∀ f ∈ Fs, ∀ k, f.D k → (cx.S k ∨ cx.W0.heap.size ≤ k) ∧ ∀ g ∈ Fr, ¬ g.D k := fun f hf k hk => D2 _ (hD _ (List.mem_cons_of_mem _ hf) _ hk) (fsNP f hf k hk).1 (fsNP f hf k hk).2
  have frl : ∀ g ∈ Fr, ∀ k, g.D k → k < w.heap.size := fun g hg => hs.flt g (mFr g hg)
  have frNU : ∀ g ∈ Fr, ∀ k, g.D k → ¬ Un (heldF β0 H0 F0 ((l, o) :: P0) :: Gi) k := by
    intro g hg k hk q
    by_cases hkl : k = l
    · have := frl g hg k hk; omega
    by_cases hkp : ∀ p ∈ P0, p.1 ≠ k
    · exact (D2 k (.inl q) hkl hkp).2 g hg hk
    · simp only [Classical.not_forall, Decidable.not_not] at hkp
      obtain ⟨p, hp, rfl⟩ := hkp
      rcases (hP0 p hp).2.2.2 with q2 | q2
      · exact (hs.pin p q2).2.2 g (mFr g hg) hk
      · have := frl g hg _ hk; omega
  have cases3 : ∀ f ∈ Fs ++ (Fn ++ Fr), f ∈ Fs ∨ f ∈ Fn ∨ f ∈ Fr := fun f hf => by
    rcases List.mem_append.1 hf with q | q
    · exact .inl q
    · exact .inr (List.mem_append.1 q)
  refine ⟨?_, ⟨hs.fix.1, fun i hi => (hag i (Nat.lt_of_lt_of_le hi hn0)).trans (hs.fix.2 i hi)⟩, fun b hb => ?_, fun b hb => (bkD b hb).1, hst.inj, hst.ltb, fun f hf => ?_, fun f hf k hk => ?_, fun f hf b hb q => ?_, fun f hf ho k hk => ?_, ?_, fun p hp => ⟨?_, (hP0 p hp).2.1, fun f hf q => ?_⟩, hmk,
    ⟨fun p hp => hPb p (hs.rnd.1 p hp), fun l' hl' => ⟨hmr l' hl', by obtain ⟨r, hr⟩ := (hs.rnd.2 l' hl').2; exact ⟨r, hPb _ hr⟩⟩⟩⟩
  · refine ⟨hc2.os.trans (hc1.os.trans hs.chg.os), hc2.tape.trans (hc1.tape.trans hs.chg.tape), hc2.output.trans (hc1.output.trans hs.chg.output), ?_, fun k hk hns => ?_⟩
    · rw [World.putObj_size]; exact Nat.le_trans hs.chg.size (Nat.le_trans hsz hc2.size)
    · have hkw : k < w.heap.size := Nat.lt_of_lt_of_le hk hs.chg.size
      have hkl : k ≠ l := by omega
      rw [hoth k hkl]
      have e1 : w1.heap[k]? = cx.W0.heap[k]? := (hc1.same k hkw (fun q => q)).trans (hs.chg.same k hk hns)
      by_cases hU : Un (heldF β0 H0 F0 ((l, o) :: P0) :: Gi) k
      · by_cases hkp : ∀ p ∈ P0, p.1 ≠ k
        · rcases (D2 k (.inl hU) hkl hkp).1 with q | q
          · exact (hns q).elim
          · omega
        · simp only [Classical.not_forall, Decidable.not_not] at hkp
          obtain ⟨p, hp, rfl⟩ := hkp
          rw [(pinO p (List.mem_cons_of_mem _ hp)).1, ← e1, (hP0 p hp).1]
      · rw [hc2.same k (by omega) hU, e1]
  · rw [hoth _ (bkNP b hb).1]; exact hfp.1 b hb
  · rcases cases3 f hf with hf | hf | hf
    · exact f.st _ _ (fun k hk => hoth k (fsNP f hf k hk).1) (hm.fact f (List.mem_cons_of_mem _ hf))
    · exact f.st _ _ (fun k hk => hoth k (fnNP f hf k hk).1) (hfp.2.1 f hf)
    · refine f.st _ _ (fun k hk => ?_) (hs.fact f (mFr f hf))
      have := frl f hf k hk
      rw [hoth k (by omega), hc2.same k (by omega) (frNU f hf k hk), hc1.same k this (fun q => q)]
  · rw [World.putObj_size]
    rcases cases3 f hf with hf | hf | hf
    · exact hm.flt f (List.mem_cons_of_mem _ hf) k hk
    · exact hm.flt _ List.mem_cons_self k (.inr (.inl ⟨f, hf, hk⟩))
    · exact Nat.lt_of_lt_of_le (frl f hf k hk) (Nat.le_trans hsz hc2.size)
  · rcases cases3 f hf with hf | hf | hf
    · exact hfs f hf (.inl rfl) _ (.inl ⟨b, hb, rfl⟩) q
    · exact hst.sepb f hf b hb q
    · exact (bkD b hb).2 f hf q
  · rcases cases3 f hf with hf | hf | hf
    · exact (fsD f hf k hk).1
    · exact (fnD f hf k hk).1
    · exact hs.fown f (mFr f hf) ho k hk
  · refine List.pairwise_append.2 ⟨hfd, List.pairwise_append.2 ⟨hst.sepf, sFr, fun f hf g hg _ k hk => (fnD f hf k hk).2 g hg⟩, fun f hf g hg ho k hk hk' => ?_⟩
    rcases List.mem_append.1 hg with hg | hg
    · exact hfs f hf (.inl rfl) k (.inr (.inl ⟨g, hg, hk'⟩)) hk
    · exact (fsD f hf k hk).2 g hg hk'
  · rw [hoth _ (hP0 p hp).2.2.1]; exact (pinO p (List.mem_cons_of_mem _ hp)).1
  · rcases cases3 f hf with hf | hf | hf
    · exact (fsNP f hf _ q).2 p hp rfl
    · exact (fnNP f hf _ q).2 p hp rfl
    · rcases (hP0 p hp).2.2.2 with q2 | q2
      · exact (hs.pin p q2).2.2 f (mFr f hf) q
      · have := frl f hf _ q; omega
theorem SL.val_eqb {β β' : Va} (h : β.b = β'.b) (x : SL) : x.val β = x.val β' := by
  cases x with
  | v x => rfl
  | p id o => simp only [SL.val, h]
theorem SV.val_eqb {β β' : Va} (h : β.b = β'.b) (s : SV) : s.val β = s.val β' := by
  have : SL.val β = SL.val β' := funext (SL.val_eqb h)
  cases s <;> simp only [SV.val, this]
theorem callable_run {P : Program} {k : FuncId} (hcall : callable P k = true) (args : Array Value) (w : World) : (callFunc k args).run P w = .ok (.enter k args) w := by
  unfold callable at hcall
  cases hq : P.funcs[k]? with
  | none => rw [hq] at hcall; cases hcall
  | some fn =>
    rw [hq] at hcall
    simp only [Bool.and_eq_true, Bool.not_eq_true'] at hcall
    obtain ⟨hb, hn⟩ := hcall
    have hn' : ¬ fn.name = "runtime.NumGoroutine" := by simpa using hn
    have hb' : ¬ fn.body = none := by intro q; rw [q] at hb; cases hb
    simp [callFunc, hq, hn', hb']
theorem enter_loop (h : Sat cx β n H F w) (fn : FuncId) (tmps : Array Value) (ps : Array Tmp) (assign body : Code) :
    ∃ (l : Nat) (mk : List Nat) (w1 : World) (d : Nat) (newp : List (Nat × Obj)), (Instr.enterLoop fn tmps ps assign body cx.rnd).run cx.P w = .ok (l, mk.map (fun r => { target := .collected r, args := #[] })) w1 ∧ Chg None_ w w1 ∧ w.heap.size ≤ l ∧
      w1.heap[l]? = some (.loop { state := .ready, pending := none, fn, tmps, params := ps, assign, body, defers := d }) ∧ (∀ p ∈ newp, w1.heap[p.1]? = some p.2 ∧ p.2.isCells = false ∧ p.1 ≠ l ∧ w.heap.size ≤ p.1) ∧
      mk.Nodup ∧ (∀ r ∈ mk, (r, Obj.deferred (some [])) ∈ newp ∧ w.heap.size ≤ r) ∧ (∀ l', cx.rnd = some l' → mk = []) := by
  cases hr : cx.rnd with
  | none =>
    refine ⟨w.heap.size + 1, [w.heap.size], _, w.heap.size, [(w.heap.size, .deferred (some []))], run_enterLoop_outer fn tmps ps assign body, ?_, by omega, ?_, fun p hp => ?_, by simp, fun r hr' => ?_, fun l' hl' => by cases hl'⟩
    · exact Chg.trans (S := None_) (T := None_) (U := None_) (Chg.alloc w _) (Chg.alloc _ _) (fun _ _ q => q) (fun _ _ q => q)
    · have := World.alloc_heap_new (w.alloc (.deferred (some []))) (.loop { state := .ready, pending := none, fn, tmps, params := ps, assign, body, defers := w.heap.size }); rwa [World.size_alloc] at this
    · obtain rfl := List.mem_singleton.1 hp
      exact ⟨(RowKit.Below.heap_alloc _ _ _ (by simp)).trans (World.alloc_heap_new w _), rfl, by simp, Nat.le_refl _⟩
    · obtain rfl := List.mem_singleton.1 hr'
      exact ⟨List.mem_singleton.2 rfl, Nat.le_refl _⟩
  | some l0 =>
    obtain ⟨r0, hr0⟩ := (h.rnd.2 l0 hr).2
    refine ⟨w.heap.size, [], _, r0.defers, [], run_enterLoop_inner (h.pin _ hr0).1 fn tmps ps assign body, Chg.alloc w _, Nat.le_refl _, World.alloc_heap_new w _, (fun p hp => by cases hp), List.nodup_nil, (fun r hr' => by cases hr'), fun _ _ => rfl⟩
def RoundQ {α ι κ : Type} (cx : Cx) (n' : Nat) (Pre : List α → ι → Prop) (HH : ι → List Bk) (FF : ι → List Fact) (Stp : Exit → List α → κ → Prop) (HX : κ → List Bk) (FX : κ → List Fact) (pre : List α) : Exit → KT
  | .normal => fun m env H F => ∃ j, Pre pre j ∧ Ent cx m env H F n' [] (HH j) (FF j)
  | .ret => fun m env H F => ∃ j, Stp .ret pre j ∧ Ent cx m env H F n' [] (HX j) (FX j)
  | .exit id => fun m env H F => ∃ j, Stp (.exit id) pre j ∧ Ent cx m env H F n' [] (HX j) (FX j)
  | _ => fun _ _ _ _ => False
theorem range_ruleP {α ι κ : Type} (g : Good cx) {fo : Operand} {ps : Array Tmp} {assign body : Code} {Q : Exit → KT} {k : FuncId} {cv : List Value} {sv : SV}
    (hsv : ev env fo = some sv) (hfn : fnOf sv = some (k, [], cv.map SL.v)) (hcall : callable cx.P k = true) (n' : Nat) (hn' : n ≤ n')
    (Pre : List α → ι → Prop) (HH : ι → List Bk) (FF : ι → List Fact) (hFF : ∀ i, Owns (FF i))
    (Stp : Exit → List α → κ → Prop) (HX : κ → List Bk) (FX : κ → List Fact) (hFX : ∀ j, Owns (FX j))
    (Gi Ri Fr : List Fact) (hGi : Owns Gi) (hFr : ∀ g ∈ Fr, g.own = false)
    (i0 : ι) (h0 : Pre [] i0) (hent : ∀ β w, Sat cx β n H F w → ∃ β', Agr n β β' ∧ Sat cx β' n' (HH i0) (Gi ++ (Ri ++ (FF i0 ++ Fr))) w)
    (ins : List α → α → Array Value → Fact → Prop) (Done Stopd : List α → List Fact → Prop)
    (hit : ∀ (l : Nat) (w : World) (f0 R : Fact) (J Jx : List α → Fact → Prop), J [] f0 → (∀ pre f, J pre f → f.own = true) → R.own = false → Yc cx.P l J Jx R ins → (∀ pre f, J pre f → ∃ i, Pre pre i) → Mem w (f0 :: R :: (Gi ++ Ri)) →
      Con cx.P k (#[Value.func (.yield l) #[] #[]] ++ cv.toArray) w (f0 :: Gi) (fun _ Fs => ∃ f Fs', Fs = f :: Fs' ∧ ((∃ xs, J xs f ∧ Done xs Fs') ∨ (∃ pre, Jx pre f ∧ Stopd pre Fs'))))
    (hround : ∀ (i : ι) (pre : List α) (x : α) (args : Array Value) (X : Fact) (W : World) (S : Nat → Prop) (l : Nat) (bs : List Nat) (pn pn' : List (Nat × Obj)), bs.length ≤ n' → Pre pre i → ins pre x args X → ∃ er, bindP cx.N ps.toList args.toList env = some er ∧
      cwp (rcx cx W S l bs pn) assign (norm (cwp (rcx cx W S l bs pn') body (RoundQ (rcx cx W S l bs pn') n' Pre HH FF Stp HX FX (pre ++ [x])))) n' er (HH i) (X :: FF i ++ Fr))
    (hdone : ∀ xs i Fs, Pre xs i → Done xs Fs → Q .normal n' env (HH i) (Fs ++ (FF i ++ Fr)))
    (hstop : ∀ e pre j Fs, Stp e pre j → Stopd pre Fs → Q e n' env (HX j) (Fs ++ (FX j ++ Fr))) :
    Tri cx (.rangeFunc fo ps assign body) Q n env H F := by
  refine ⟨fun β a w hi => ?_⟩
  obtain ⟨β0, hag0, hs0⟩ := hent β w hi.sat
  obtain ⟨hev, _⟩ := hi.ev hsv
  have hval : a.eval fo = .func (.func k) #[] cv.toArray := by
    rw [hev]
    unfold fnOf at hfn
    split at hfn
    · simp only [Option.some.injEq, Prod.mk.injEq, List.map_eq_nil_iff, Array.toList_eq_nil_iff] at hfn
      obtain ⟨rfl, rfl, h3⟩ := hfn
      have : _ = cv := (List.map_inj_right (f := SL.v) (fun x y q => by injection q)).1 h3
      simp only [SV.val, SL.val, ← this]
    · simp only [Option.some.injEq, Prod.mk.injEq] at hfn
      obtain ⟨rfl, rfl, rfl⟩ := hfn
      simp [SV.val, SL.val, Function.comp_def]
    · cases hfn
  refine wpIn_rangeFunc fun fn _ => ?_
  rw [cx.fence_round]
  obtain ⟨l, mk, w1, dd, newp, hrun, hc1, hll, hrec, hnewp, hmk1, hmk2, hmk3⟩ := enter_loop hs0 fn a.tmps ps assign body
  obtain ⟨rec, hrecD⟩ : ∃ rec : LoopState → Option Code → Loop, rec = fun st pe => { state := st, pending := pe, fn, tmps := a.tmps, params := ps, assign, body, defers := dd } := ⟨_, rfl⟩
  have hrec' : w1.heap[l]? = some (.loop (rec .ready none)) := by rw [hrecD]; exact hrec
  obtain ⟨P0, hP0D⟩ : ∃ P0, P0 = newp ++ β0.pins := ⟨_, rfl⟩
  have hP0 : ∀ p ∈ P0, w1.heap[p.1]? = some p.2 ∧ p.2.isCells = false ∧ p.1 ≠ l ∧ (p ∈ β0.pins ∨ w.heap.size ≤ p.1) := by
    intro p hp
    rw [hP0D] at hp
    rcases List.mem_append.1 hp with hp | hp
    · exact ⟨(hnewp p hp).1, (hnewp p hp).2.1, (hnewp p hp).2.2.1, .inr (hnewp p hp).2.2.2⟩
    · have := hs0.pinLt hp
      exact ⟨by rw [hc1.same _ this (fun q => q)]; exact (hs0.pin p hp).1, (hs0.pin p hp).2.1, by omega, .inl hp⟩
  have hPb : ∀ p ∈ β0.pins, p ∈ P0 := fun p hp => by rw [hP0D]; exact List.mem_append_right _ hp
  have hPl : ∀ p ∈ P0, p.1 ≠ l := fun p hp => (hP0 p hp).2.2.1
  -- what the rounds own, at each of their ends
  let J : List α → Fact → Prop := fun pre f => ∃ (i : ι) (β' : Va), Pre pre i ∧ (∀ q, q < n → β' q = β0 q) ∧ Sta β' n' (HH i) (FF i) ((l, .loop (rec .ready none)) :: P0) ∧ f = heldF β' (HH i) (FF i) ((l, .loop (rec .ready none)) :: P0)
  let Jx : List α → Fact → Prop := fun pre f => ∃ (e : Exit) (c : Code) (j : κ) (β' : Va), jumpOf e = some c ∧ Stp e pre j ∧ (∀ q, q < n → β' q = β0 q) ∧ Sta β' n' (HX j) (FX j) ((l, .loop (rec .done (some c))) :: P0) ∧ f = heldF β' (HX j) (FX j) ((l, .loop (rec .done (some c))) :: P0)
  have mF0 : ∀ f ∈ FF i0, f ∈ Gi ++ (Ri ++ (FF i0 ++ Fr)) := fun f hf => by simp [hf]
  have mFr : ∀ f ∈ Fr, f ∈ Gi ++ (Ri ++ (FF i0 ++ Fr)) := fun f hf => by simp [hf]
  have mGR : ∀ f ∈ Gi ++ Ri, f ∈ Gi ++ (Ri ++ (FF i0 ++ Fr)) := fun f hf => by rcases List.mem_append.1 hf with q | q <;> simp [q]
  have hsz : w.heap.size ≤ w1.heap.size := hc1.size
  have hpinf : ∀ f ∈ Gi ++ (Ri ++ (FF i0 ++ Fr)), ∀ p ∈ ((l, Obj.loop (rec .ready none)) :: P0), ¬ f.D p.1 := by
    intro f hf p hp q
    rcases List.mem_cons.1 hp with rfl | hp
    · have := hs0.flt f hf l q; omega
    · rcases (hP0 p hp).2.2.2 with q2 | q2
      · exact (hs0.pin p q2).2.2 f hf q
      · have := hs0.flt f hf _ q; omega
  have hsta0 : Sta β0 n' (HH i0) (FF i0) ((l, .loop (rec .ready none)) :: P0) := by
    refine ⟨hs0.inj, hs0.ltb, fun f hf => hs0.sepb f (mF0 f hf), ?_, hFF i0, fun p hp => ⟨?_, fun f hf => hpinf f (mF0 f hf) p hp⟩⟩
    · exact (List.pairwise_append.1 (List.pairwise_append.1 (List.pairwise_append.1 hs0.sepf).2.1).2.1).1
    · rcases List.mem_cons.1 hp with rfl | hp
      · rfl
      · exact (hP0 p hp).2.1
  have hsat1 := hs0.same hc1
  have hmem1 : Mem w1 (heldF β0 (HH i0) (FF i0) ((l, .loop (rec .ready none)) :: P0) :: readF Fr :: (Gi ++ Ri)) := by
    obtain ⟨sG, sRest, cG⟩ := List.pairwise_append.1 hs0.sepf
    obtain ⟨sR, sRest2, cR⟩ := List.pairwise_append.1 sRest
    obtain ⟨_, _, cF0⟩ := List.pairwise_append.1 sRest2
    have dsep : ∀ d ∈ Gi ++ (Ri ++ Fr), ∀ q, (heldF β0 (HH i0) (FF i0) ((l, .loop (rec .ready none)) :: P0)).D q → ¬ d.D q := by
      intro d hd q hq hdq
      have hdm : d ∈ Gi ++ (Ri ++ (FF i0 ++ Fr)) := by
        rcases List.mem_append.1 hd with x | x
        · simp [x]
        · rcases List.mem_append.1 x with x | x <;> simp [x]
      rcases hq with ⟨b, hb, rfl⟩ | ⟨f, hf, hk⟩ | ⟨p, hp, rfl⟩
      · exact hs0.sepb d hdm b hb hdq
      · rcases List.mem_append.1 hd with x | x
        · exact cG d x f (by simp [hf]) (.inr ((hFF i0).mem f hf)) q hdq hk
        · rcases List.mem_append.1 x with x | x
          · exact cR d x f (by simp [hf]) (.inr ((hFF i0).mem f hf)) q hdq hk
          · exact cF0 f hf d x (.inl ((hFF i0).mem f hf)) q hk hdq
      · exact hpinf d hdm p hp hdq
    refine ⟨fun f hf => ?_, fun f hf q hq => ?_, List.pairwise_cons.2 ⟨fun d hd _ q hq => ?_, List.pairwise_cons.2 ⟨fun d hd ho q hq hdq => ?_, ?_⟩⟩⟩
    · rcases List.mem_cons.1 hf with rfl | hf
      · refine ⟨hsat1.blk, fun f hf => hsat1.fact f (mF0 f hf), fun p hp => ?_⟩
        rcases List.mem_cons.1 hp with rfl | hp
        · exact hrec'
        · exact (hP0 p hp).1
      · rcases List.mem_cons.1 hf with rfl | hf
        · exact fun f hf => hsat1.fact f (mFr f hf)
        · exact hsat1.fact f (mGR f hf)
    · rcases List.mem_cons.1 hf with rfl | hf
      · rcases hq with ⟨b, hb, rfl⟩ | ⟨f, hf, hk⟩ | ⟨p, hp, rfl⟩
        · exact hsat1.lt hb
        · exact hsat1.flt f (mF0 f hf) q hk
        · rcases List.mem_cons.1 hp with rfl | hp
          · exact (Array.getElem?_eq_some_iff.1 hrec').1
          · exact (Array.getElem?_eq_some_iff.1 (hP0 p hp).1).1
      · rcases List.mem_cons.1 hf with rfl | hf
        · obtain ⟨f, hf, hk⟩ := hq; exact hsat1.flt f (mFr f hf) q hk
        · exact hsat1.flt f (mGR f hf) q hq
    · rcases List.mem_cons.1 hd with rfl | hd
      · rintro ⟨d', hd', hk⟩
        exact dsep d' (by simp [hd']) q hq hk
      · refine dsep d ?_ q hq
        rcases List.mem_append.1 hd with x | x <;> simp [x]
    · obtain ⟨d', hd', hk⟩ := hq
      have hdo : d.own = true := ho.resolve_left (by simp [readF])
      rcases List.mem_append.1 hd with x | x
      · exact cG d x d' (by simp [hd']) (.inl hdo) q hdq hk
      · exact cR d x d' (by simp [hd']) (.inl hdo) q hdq hk
    · refine List.pairwise_append.2 ⟨sG, sR, fun f hf d hd => cG f hf d (by simp [hd])⟩
  -- one round
  have hY : Yc cx.P l J Jx (readF Fr) ins := by
    rintro pre x f wy args X ⟨i, β', hpre, hagb, hsta, rfl⟩ hm hx
    obtain ⟨hf1, _, _, hf4, _⟩ := hm.three rfl rfl
    have hlrec := hf1.2.2 _ List.mem_cons_self
    simp only at hlrec
    have hps' := hround i pre x args X wy (Un (heldF β' (HH i) (FF i) ((l, .loop (rec .ready none)) :: P0) :: gv X)) l ((List.range n).map β0) ((l, .loop (rec .ready none)) :: P0) ((l, .loop (rec .busy none)) :: P0) (by simpa using hn') hpre hx
    obtain ⟨er, hbind, hcwp⟩ := hps'
    have hszt : a.tmps.size = cx.N := hi.size
    have hagA : ∀ t s, get env t = some s → a.tmps[t]? = some (s.val (⟨β'.b, ((l, .loop (rec .ready none)) :: P0), []⟩ : Va)) := by
      intro t s ht
      rw [hi.ag t s ht]
      congr 1
      have h1 : s.val β0 = s.val β := SV.val_congr hag0 (hi.lte t s ht)
      have h2 : s.val (⟨β'.b, ((l, .loop (rec .ready none)) :: P0), []⟩ : Va) = s.val (⟨β0.b, ((l, .loop (rec .ready none)) :: P0), []⟩ : Va) := SV.val_congr (n := n) (β := (⟨β0.b, ((l, .loop (rec .ready none)) :: P0), []⟩ : Va)) (β' := (⟨β'.b, ((l, .loop (rec .ready none)) :: P0), []⟩ : Va)) ⟨rfl, rfl, hagb⟩ (hi.lte t s ht)
      have h3 : s.val (⟨β0.b, ((l, .loop (rec .ready none)) :: P0), []⟩ : Va) = s.val β0 := SV.val_eqb rfl s
      rw [← h1, ← h3, ← h2]
    have hb4 := bindP_ag (n := n') ps.toList args.toList env er a.tmps hbind hszt hagA (fun t s ht => SV.lt_mono hn' (hi.lte t s ht))
    have hasz : args.size = ps.size := by have := hb4.2.2.2; simpa using this.symm
    refine ⟨fn, (ps.zip args).foldl (fun tmps (t, v) => tmps.setIfInBounds t v) a.tmps, assign, body, ?_, ?_⟩
    · have := run_yield (P := cx.P) (args := args) hlrec (by rw [hrecD]; exact hasz)
      rw [hrecD] at this
      exact this
    · have hfence : ∀ pn, (rcx cx wy (Un (heldF β' (HH i) (FF i) ((l, .loop (rec .ready none)) :: P0) :: gv X)) l ((List.range n).map β0) pn).fence = Fence.wide.inRound l := fun _ => rfl
      refine roundIn_of_wpIn trivial ?_
      have hsat : Sat (rcx cx wy (Un (heldF β' (HH i) (FF i) ((l, .loop (rec .ready none)) :: P0) :: gv X)) l ((List.range n).map β0) ((l, .loop (rec .ready none)) :: P0)) ⟨β'.b, ((l, .loop (rec .ready none)) :: P0), []⟩ n' (HH i) (X :: FF i ++ Fr) wy :=
        round_sat (β := ⟨β'.b, ((l, .loop (rec .ready none)) :: P0), []⟩) ⟨hsta.inj, hsta.ltb, hsta.sepb, hsta.sepf, hsta.own, hsta.pinf⟩ hFr hm hn' (by simp) (fun q hq => by simp [hq, hagb q hq]) List.mem_cons_self rfl rfl
      have hw1 := (cwp_sound (rcx_good g) _ _ _ _ _ _ hcwp).run ⟨β'.b, ((l, .loop (rec .ready none)) :: P0), []⟩ { tmps := (ps.toList.zip args.toList).foldl (fun t (q : Tmp × Value) => t.setIfInBounds q.1 q.2) a.tmps, defers := [] } wy ⟨hb4.2.1, hb4.1, rfl, hb4.2.2.1, hsat⟩
      rw [hfence] at hw1
      have htmp : (ps.zip args).foldl (fun tmps (t, v) => tmps.setIfInBounds t v) a.tmps = (ps.toList.zip args.toList).foldl (fun t (q : Tmp × Value) => t.setIfInBounds q.1 q.2) a.tmps := by
        rw [← Array.foldl_toList, Array.toList_zip]
      rw [htmp]
      refine wpIn_mono hw1 fun e a1 wa hq => ?_
      cases e with
      | normal =>
        obtain ⟨β1, n1, env1, H1, F1, hi1, hq1⟩ := hq
        have hl1 := (hi1.sat.pin _ (hi1.sat.rnd.1 _ List.mem_cons_self)).1
        simp only at hl1
        refine ⟨_, run_beginRound hl1 (by rw [hrecD]), ?_⟩
        have hSl : Un (heldF β' (HH i) (FF i) ((l, .loop (rec .ready none)) :: P0) :: gv X) l := ⟨_, List.mem_cons_self, .inr (.inr ⟨_, List.mem_cons_self, rfl⟩)⟩
        have hs2 := hi1.sat.repin (o' := .loop (rec .busy none)) rfl ⟨_, rfl⟩ hPl hSl
        have hi2 : Inv (rcx cx wy (Un (heldF β' (HH i) (FF i) ((l, .loop (rec .ready none)) :: P0) :: gv X)) l ((List.range n).map β0) ((l, .loop (rec .busy none)) :: P0)) ⟨β1.b, ((l, .loop (rec .busy none)) :: P0), []⟩ n1 env1 H1 F1 a1 (wa.putObj l (.loop (rec .busy none))) := by
          refine ⟨fun t s ht => ?_, hi1.size, ?_, hi1.lte, hs2⟩
          · rw [hi1.ag t s ht]
            congr 1
          · have := hi1.df
            rw [(hi1.sat.rnd.2 l rfl).1] at this
            exact this
        have hrb : ({ rec .ready none with state := .busy } : Loop) = rec .busy none := by rw [hrecD]
        rw [hrb]
        have hw2 := (cwp_sound (rcx_good g) _ _ _ _ _ _ hq1).run _ _ _ hi2
        rw [hfence] at hw2
        refine wpIn_mono hw2 fun e2 a2 wb hq2 => ?_
        have hSp : ∀ p ∈ (l, Obj.loop (rec .busy none)) :: P0, Un (heldF β' (HH i) (FF i) ((l, .loop (rec .ready none)) :: P0) :: gv X) p.1 := by
          intro p hp
          rcases List.mem_cons.1 hp with rfl | hp
          · exact hSl
          · exact ⟨_, List.mem_cons_self, .inr (.inr ⟨p, List.mem_cons_of_mem _ hp, rfl⟩)⟩
        have stopx : ∀ (e : Exit) (c : Code), jumpOf e = some c → After (rcx cx wy (Un (heldF β' (HH i) (FF i) ((l, .loop (rec .ready none)) :: P0) :: gv X)) l ((List.range n).map β0) ((l, .loop (rec .busy none)) :: P0)) (fun m env H F => ∃ j, Stp e (pre ++ [x]) j ∧ Ent (rcx cx wy (Un (heldF β' (HH i) (FF i) ((l, .loop (rec .ready none)) :: P0) :: gv X)) l ((List.range n).map β0) ((l, .loop (rec .busy none)) :: P0)) m env H F n' [] (HX j) (FX j)) a2 wb →
            ∃ v w4, (Instr.endRound l (some c)).run cx.P wb = .ok v w4 ∧ ∃ u, Ending.returned v = .returned u ∧ ∃ f', Chg (Un (heldF β' (HH i) (FF i) ((l, .loop (rec .ready none)) :: P0) :: gv X)) wy w4 ∧ f'.own = true ∧ f'.p w4 ∧ (∀ k, f'.D k → (Un (heldF β' (HH i) (FF i) ((l, .loop (rec .ready none)) :: P0) :: gv X) k ∨ wy.heap.size ≤ k) ∧ k < w4.heap.size) ∧ ((u = .bool true ∧ J (pre ++ [x]) f') ∨ (u = .bool false ∧ Jx (pre ++ [x]) f')) := by
          rintro e c hc ⟨β2, n2, env2, H2, F2, hi3, j, hst, hentj⟩
          obtain ⟨β3, _, _, hi4⟩ := hentj.run β2 a2 wb hi3
          have hl3 := (hi4.sat.pin _ (hi4.sat.rnd.1 _ List.mem_cons_self)).1
          simp only at hl3
          have her := run_endRound (P := cx.P) (some c) hl3
          simp only [Option.isNone_some, Bool.false_eq_true, if_false] at her
          have hrd : ({ rec .busy none with state := .done, pending := some c } : Loop) = rec .done (some c) := by rw [hrecD]
          rw [hrd] at her
          obtain ⟨q1, q2, q3, q4⟩ := round_end hi4.sat (hFX j) (o' := .loop (rec .done (some c))) ⟨_, rfl⟩ hPl hSp
          refine ⟨_, _, her, _, rfl, _, q1, rfl, q2, q3, .inr ⟨rfl, e, c, j, β3, hc, hst, fun q hq => ?_, q4, rfl⟩⟩
          have := hi4.sat.fix.2 q (by simpa [rcx] using hq)
          rw [this]
          simp [rcx, hq]
        cases e2 with
        | normal =>
          obtain ⟨β2, n2, env2, H2, F2, hi3, j, hst, hentj⟩ := hq2
          obtain ⟨β3, _, _, hi4⟩ := hentj.run β2 a2 wb hi3
          have hl3 := (hi4.sat.pin _ (hi4.sat.rnd.1 _ List.mem_cons_self)).1
          simp only at hl3
          have her := run_endRound (P := cx.P) none hl3
          simp only [Option.isNone_none, if_true] at her
          have hrd : ({ rec .busy none with state := .ready, pending := none } : Loop) = rec .ready none := by rw [hrecD]
          rw [hrd] at her
          obtain ⟨q1, q2, q3, q4⟩ := round_end hi4.sat (hFF j) (o' := .loop (rec .ready none)) ⟨_, rfl⟩ hPl hSp
          refine ⟨_, _, her, _, rfl, _, q1, rfl, q2, q3, .inl ⟨rfl, j, β3, hst, fun q hq => ?_, q4, rfl⟩⟩
          have := hi4.sat.fix.2 q (by simpa [rcx] using hq)
          rw [this]
          simp [rcx, hq]
        | ret => exact stopx .ret .ret rfl hq2
        | exit id => exact stopx (.exit id) (.exit id) rfl hq2
        | goto t => obtain ⟨_, _, _, _, _, _, q⟩ := hq2; exact q.elim
        | panic c => exact hq2.elim
        | outgrown => exact hq2.elim
      | ret => obtain ⟨_, _, _, _, _, _, q⟩ := hq; exact q.elim
      | exit id => obtain ⟨_, _, _, _, _, _, q⟩ := hq; exact q.elim
      | goto t => obtain ⟨_, _, _, _, _, _, q⟩ := hq; exact q.elim
      | panic c => exact hq.elim
      | outgrown => exact hq.elim
  have hcon := hit l w1 _ (readF Fr) J Jx ⟨i0, β0, h0, fun _ _ => rfl, hsta0, rfl⟩ (fun pre f ⟨_, _, _, _, _, e⟩ => by rw [e]; rfl) rfl hY (fun pre f ⟨i, _, h, _⟩ => ⟨i, h⟩) hmem1
  refine ⟨l, _, w1, { target := .fn (.func k) cv.toArray, args := #[.func (.yield l) #[] #[]] }, w1, k, #[.func (.yield l) #[] #[]] ++ cv.toArray, w1, hrun, ?_, fun f' _ => cx.fence_fn f', ?_, fun q => (by rw [cx.fence_depth] at q; cases q), ?_⟩
  · simp only [resolve, hval]
    simp [go_sem]
  · simp [invoke, go_sem, callable_run hcall]
  · refine CallsIn.mono (callsIn_fence cx (callsIn_wide (n := 0 - 1).2 hcon)) fun e w2 hq => ?_
    obtain ⟨v, rfl, Fs, ⟨f, Fs', rfl, hJ⟩, hch, hm2, hown2, hD2⟩ := hq
    have hmks : (mk ++ β0.marks).Nodup ∧ ∀ r ∈ mk ++ β0.marks, (r, Obj.deferred (some [])) ∈ P0 ∧ cx.W0.heap.size ≤ r := by
      refine ⟨List.nodup_append.2 ⟨hmk1, hs0.mrk.1, fun r hr r' hr' q => ?_⟩, fun r hr => ?_⟩
      · subst q
        have h1 := (hmk2 r hr).2
        have h2 := hs0.pinLt (hs0.mrk.2 r hr').1
        simp only at h2
        omega
      · rcases List.mem_append.1 hr with hr | hr
        · exact ⟨by rw [hP0D]; exact List.mem_append_left _ (hmk2 r hr).1, Nat.le_trans hs0.chg.size (hmk2 r hr).2⟩
        · exact ⟨hPb _ (hs0.mrk.2 r hr).1, (hs0.mrk.2 r hr).2⟩
    have hmr : ∀ l', cx.rnd = some l' → mk ++ β0.marks = [] := fun l' hl' => by rw [hmk3 l' hl', (hs0.rnd.2 l' hl').1]; rfl
    have hbsn : cx.bs.length ≤ n := hi.sat.fix.1
    have fin : ∀ (β' : Va) (Hn : List Bk) (Fn : List Fact) (w4 : World) (K : KT), (∀ q, q < n → β' q = β0 q) → Sat cx ⟨β'.b, P0, mk ++ β0.marks⟩ n' Hn (Fs' ++ (Fn ++ Fr)) w4 → K n' env Hn (Fs' ++ (Fn ++ Fr)) →
        After cx K { a with defers := mk.map (fun r => { target := .collected r, args := #[] }) ++ a.defers } w4 := by
      intro β' Hn Fn w4 K hagb hsat hK
      refine ⟨_, n', env, Hn, _, ⟨fun t s ht => ?_, hi.size, ?_, fun t s ht => SV.lt_mono hn' (hi.lte t s ht), hsat⟩, hK⟩
      · show a.tmps[t]? = _
        rw [hi.ag t s ht]
        congr 1
        have key : ∀ y : SL, y.lt n → y.val (⟨β'.b, P0, mk ++ β0.marks⟩ : Va) = y.val β := fun y hy => by
          cases y with
          | v x => rfl
          | p id o => simp only [SL.val]; rw [← hag0.at_ id hy]; exact congrArg (fun z => Value.pointer (some ⟨z, o, none⟩)) (hagb id hy)
        have hlt := hi.lte t s ht
        cases s with
        | c x => exact (key x hlt).symm
        | agg xs => simp only [SV.val]; congr 2; exact List.map_congr_left fun x hx => (key x (hlt x hx)).symm
        | fn f u v => simp only [SV.val]; congr 2 <;> exact List.map_congr_left fun x hx => (key x (by first | exact hlt.1 x hx | exact hlt.2 x hx)).symm
      · show _ ++ a.defers = _
        rw [hi.df, ← hag0.marks, List.map_append]
    rcases hJ with ⟨xs, ⟨i, β', hpre, hagb, hsta, rfl⟩, hdn⟩ | ⟨pre, ⟨e, c, j, β', hc, hst, hagb, hsta, rfl⟩, hsd⟩
    · have hl2 := (hm2.fact _ List.mem_cons_self).2.2 _ List.mem_cons_self
      simp only at hl2
      have hel := run_endLoop (P := cx.P) hl2 (by rw [hrecD]; simp)
      have hpd : (rec .ready none).pending = none := by rw [hrecD]
      rw [hpd] at hel
      exact ⟨none, _, hel, fin β' (HH i) (FF i) _ _ hagb (range_end hs0 hGi (hFF i0) hc1 hll hP0 hPb hch hm2 hD2 hsta hbsn hagb hmks hmr) (hdone xs i Fs' hpre hdn)⟩
    · have hl2 := (hm2.fact _ List.mem_cons_self).2.2 _ List.mem_cons_self
      simp only at hl2
      have hel := run_endLoop (P := cx.P) hl2 (by rw [hrecD]; simp)
      have hpd : (rec .done (some c)).pending = some c := by rw [hrecD]
      rw [hpd] at hel
      refine ⟨some c, _, hel, ?_⟩
      have hA := fin β' (HX j) (FX j) _ (Q e) hagb (range_end (o2 := .loop { rec .done (some c) with state := .exhausted, pending := some c }) hs0 hGi (hFF i0) hc1 hll hP0 hPb hch hm2 hD2 hsta hbsn hagb hmks hmr) (hstop e pre j Fs' hst hsd)
      cases e <;> simp only [jumpOf, Option.some.injEq, reduceCtorEq] at hc
      · subst hc; exact wpIn_exit hA
      · subst hc; exact wpIn_ret hA
theorem range_rule {α ι κ : Type} (g : Good cx) {fo : Operand} {ps : Array Tmp} {assign body : Code} {Q : Exit → KT} {k : FuncId} {cv : List Value} {sv : SV}
    (hsv : ev env fo = some sv) (hfn : fnOf sv = some (k, [], cv.map SL.v)) (hcall : callable cx.P k = true) (n' : Nat) (hn' : n ≤ n')
    (Pre : List α → ι → Prop) (HH : ι → List Bk) (FF : ι → List Fact) (hFF : ∀ i, Owns (FF i))
    (Stp : Exit → List α → κ → Prop) (HX : κ → List Bk) (FX : κ → List Fact) (hFX : ∀ j, Owns (FX j))
    (Gi Ri Fr : List Fact) (hGi : Owns Gi) (hFr : ∀ g ∈ Fr, g.own = false)
    (i0 : ι) (h0 : Pre [] i0) (hent : ∀ β w, Sat cx β n H F w → ∃ β', Agr n β β' ∧ Sat cx β' n' (HH i0) (Gi ++ (Ri ++ (FF i0 ++ Fr))) w)
    (ins : List α → α → Array Value → Fact → Prop) (Done Stopd : List α → List Fact → Prop)
    (hit : ∀ (l : Nat) (w : World) (f0 R : Fact) (J Jx : List α → Fact → Prop), J [] f0 → (∀ pre f, J pre f → f.own = true) → R.own = false → Yc cx.P l J Jx R ins → Mem w (f0 :: R :: (Gi ++ Ri)) →
      Con cx.P k (#[Value.func (.yield l) #[] #[]] ++ cv.toArray) w (f0 :: Gi) (fun _ Fs => ∃ f Fs', Fs = f :: Fs' ∧ ((∃ xs, J xs f ∧ Done xs Fs') ∨ (∃ pre, Jx pre f ∧ Stopd pre Fs'))))
    (hround : ∀ (i : ι) (pre : List α) (x : α) (args : Array Value) (X : Fact) (W : World) (S : Nat → Prop) (l : Nat) (bs : List Nat) (pn pn' : List (Nat × Obj)), bs.length ≤ n' → Pre pre i → ins pre x args X → ∃ er, bindP cx.N ps.toList args.toList env = some er ∧
      cwp (rcx cx W S l bs pn) assign (norm (cwp (rcx cx W S l bs pn') body (RoundQ (rcx cx W S l bs pn') n' Pre HH FF Stp HX FX (pre ++ [x])))) n' er (HH i) (X :: FF i ++ Fr))
    (hdone : ∀ xs i Fs, Pre xs i → Done xs Fs → Q .normal n' env (HH i) (Fs ++ (FF i ++ Fr)))
    (hstop : ∀ e pre j Fs, Stp e pre j → Stopd pre Fs → Q e n' env (HX j) (Fs ++ (FX j ++ Fr))) :
    Tri cx (.rangeFunc fo ps assign body) Q n env H F :=
  range_ruleP g hsv hfn hcall n' hn' Pre HH FF hFF Stp HX FX hFX Gi Ri Fr hGi hFr i0 h0 hent ins Done Stopd (fun l w f0 R J Jx h1 h2 h3 h4 _ h5 => hit l w f0 R J Jx h1 h2 h3 h4 h5) hround hdone hstop
end
#print axioms range_rule
end Go.Proofs.YtnhckgipdoojeaaGreatDoor.Sx

namespace Go.Proofs.YtnhckgipdoojeaaGreatDoor.Sx
open Go
def noF : Fact where
  own := false
  D := None_
  p := fun _ => True
  st := fun _ _ _ h => h
section
variable {cx : Cx} {β : Va} {n : Nat} {env : Env} {H : List Bk} {F : List Fact} {w w' : World} {dst : Option Tmp} {K : KT}
theorem Sat.nthMem (j : Nat) {f : Fact} (hj : nth F j = some f) : f ∈ F := List.mem_of_getElem? (by rw [← nth_eq]; exact hj)
theorem yield_ro {α : Type} {l : Nat} {J Jx : List α → Fact → Prop} {R : Fact} {ins : List α → α → Array Value → Fact → Prop} (hY : Yc cx.P l J Jx R ins) {A : Va → Array Value} {pre : List α} {x : α} {f X : Fact}
    (jf jR : Nat) (hf : nth F jf = some f) (hJ : J pre f) (hfo : f.own = true) (hR : nth F jR = some R) (hRo : R.own = false) (hne : jf ≠ jR) (hins : ∀ β, ins pre x (A β) X) (hXo : X.own = false)
    (hX : ∀ β w, Sat cx β n H F w → X.p w ∧ (∀ k, X.D k → k < w.heap.size) ∧ ∀ k, f.D k → ¬ X.D k)
    (ht : ∀ f', f'.own = true → J (pre ++ [x]) f' → put cx.N n env H (f' :: dropIx [jf] 0 F) dst (.c (.v (.bool true))) K)
    (hs : ∀ f', f'.own = true → Jx (pre ++ [x]) f' → put cx.N n env H (f' :: dropIx [jf] 0 F) dst (.c (.v (.bool false))) K) :
    ∀ β w, Sat cx β n H F w → Yld cx.P l (A β) w fun v w' => Ret cx β n env dst K v w' := by
  intro β w hsat
  obtain ⟨h1, h2, h3⟩ := hX β w hsat
  have hfm := Sat.nthMem jf hf
  have hRm := Sat.nthMem jR hR
  have hap := hsat.apart (i := jf) (j := jR) (by rw [← nth_eq]; exact hf) (by rw [← nth_eq]; exact hR) hne (.inl hfo)
  have hm : Mem w [f, R, X] := by
    refine ⟨fun g hg => ?_, fun g hg k hk => ?_, ?_⟩
    · simp only [List.mem_cons, List.not_mem_nil, or_false] at hg
      rcases hg with rfl | rfl | rfl
      · exact hsat.fact _ hfm
      · exact hsat.fact _ hRm
      · exact h1
    · simp only [List.mem_cons, List.not_mem_nil, or_false] at hg
      rcases hg with rfl | rfl | rfl
      · exact hsat.flt _ hfm k hk
      · exact hsat.flt _ hRm k hk
      · exact h2 k hk
    · refine List.pairwise_cons.2 ⟨fun g hg _ => ?_, List.pairwise_cons.2 ⟨fun g hg ho => ?_, List.pairwise_singleton _ _⟩⟩
      · simp only [List.mem_cons, List.not_mem_nil, or_false] at hg
        rcases hg with rfl | rfl
        · exact hap
        · exact h3
      · obtain rfl := List.mem_singleton.1 hg
        rw [hRo, hXo] at ho
        rcases ho with q | q <;> cases q
  obtain ⟨fn, tmps, as_, body, hrun, hround⟩ := hY pre x f w (A β) X hJ hm (hins β)
  refine ⟨fn, tmps, as_, body, hrun, hround.mono ?_⟩
  rintro e w' ⟨v, rfl, f', hc, hfo', hfp', hD, hv⟩
  rw [gv_not hXo] at hc hD
  have htk : takeIx F [jf] = [f] := by simp only [takeIx, hf]
  have hsw := hsat.swap (w' := w') [jf] (by rw [htk]; exact ⟨hfo, trivial⟩) (Fs := [f']) (by rw [htk]; exact hc) ⟨fun g hg => by obtain rfl := List.mem_singleton.1 hg; exact hfp', fun g hg k hk => by obtain rfl := List.mem_singleton.1 hg; exact (hD k hk).2, List.pairwise_singleton _ _⟩ (by
    intro g hg k hk
    obtain rfl := List.mem_singleton.1 hg
    rw [htk]
    exact (hD k hk).1)
  refine ⟨v, rfl, ?_⟩
  rcases hv with ⟨rfl, hJ'⟩ | ⟨rfl, hJ'⟩
  · exact Ret.mk _ _ hsw (ht f' hfo' hJ')
  · exact Ret.mk _ _ hsw (hs f' hfo' hJ')
theorem Mem.sat0 (h : Mem w F) (hW : cx.W0 = w := by rfl) (hS : ∀ f ∈ F, f.own = true → ∀ k, f.D k → cx.S k) (hbs : cx.bs = [] := by rfl)
    (hp : β.pins = [] := by rfl) (hm : β.marks = [] := by rfl) (hr : cx.rnd = none := by rfl) (hpn : cx.pn = [] := by rfl) : Sat cx β n [] F w :=
  h.sat hW hS ⟨by rw [hbs]; exact Nat.zero_le _, fun i hi => by rw [hbs] at hi; cases hi⟩ hp hm hr hpn
theorem ownIn {Gs Rs : List Fact} (hR : ∀ g ∈ Rs, g.own = false) : ∀ f ∈ Gs ++ Rs, f.own = true → ∀ k, f.D k → Un Gs k := fun f hf ho k hk => by
  rcases List.mem_append.1 hf with q | q
  · exact ⟨f, q, hk⟩
  · rw [hR f q] at ho; cases ho
end
def SL.re (id b : Nat) : SL → SL
  | .v x => .v x
  | .p i o => match Nat.beq i id with | true => .v (.pointer (some ⟨b, o, none⟩)) | false => .p i o
def SV.re (id b : Nat) : SV → SV
  | .c x => .c (x.re id b)
  | .agg xs => .agg (xs.map (SL.re id b))
  | .fn f u v => .fn f (u.map (SL.re id b)) (v.map (SL.re id b))
def envRe (id b : Nat) : Env → Env
  | [] => []
  | (t, s) :: r => (t, s.re id b) :: envRe id b r
def bksRe (id b : Nat) : List Bk → List Bk
  | [] => []
  | k :: r => match Nat.beq k.id id with | true => bksRe id b r | false => ⟨k.id, k.ty, k.cells.map (SL.re id b)⟩ :: bksRe id b r
def tyAt : List Bk → Nat → Option TypeId
  | [], _ => none
  | b :: r, i => match Nat.beq b.id i with | true => some b.ty | false => tyAt r i
theorem SL.re_val {id b : Nat} {β : Va} (h : β id = b) (x : SL) : (x.re id b).val β = x.val β := by
  cases x with
  | v x => rfl
  | p i o =>
    simp only [SL.re]
    cases hb : Nat.beq i id with
    | true => obtain rfl := Nat.eq_of_beq_eq_true hb; simp only [SL.val, h]
    | false => rfl
theorem SL.re_lt {id b n : Nat} {x : SL} (h : x.lt n) : (x.re id b).lt n := by
  cases x with
  | v x => trivial
  | p i o =>
    simp only [SL.re]
    cases hb : Nat.beq i id with
    | true => trivial
    | false => exact h
theorem SV.re_val {id b : Nat} {β : Va} (h : β id = b) (x : SV) : (x.re id b).val β = x.val β := by
  have key : ∀ l : List SL, (l.map (SL.re id b)).map (SL.val β) = l.map (SL.val β) := fun l => by
    rw [List.map_map]; exact List.map_congr_left fun x _ => SL.re_val h x
  cases x <;> simp only [SV.re, SV.val, SL.re_val h, key]
theorem SV.re_lt {id b n : Nat} {x : SV} (h : x.lt n) : (x.re id b).lt n := by
  have key : ∀ l : List SL, (∀ x ∈ l, x.lt n) → ∀ x ∈ l.map (SL.re id b), x.lt n := fun l hl x hx => by
    obtain ⟨y, hy, rfl⟩ := List.mem_map.1 hx
    exact SL.re_lt (hl y hy)
  cases x with
  | c x => exact SL.re_lt h
  | agg xs => exact key xs h
  | fn f u v => exact ⟨key u h.1, key v h.2⟩
theorem envRe_get {id b : Nat} : ∀ {env : Env} {t : Nat} {s : SV}, get (envRe id b env) t = some s → ∃ u, get env t = some u ∧ s = u.re id b
  | [], t, s, h => by cases h
  | (u, s') :: r, t, s, h => by
    simp only [envRe] at h
    by_cases hut : u = t
    · subst hut
      rw [get_same] at h
      exact ⟨s', get_same _ _ _, (Option.some.inj h).symm⟩
    · rw [get_other _ _ hut] at h
      obtain ⟨v, hv, e⟩ := envRe_get h
      exact ⟨v, by rw [get_other _ _ hut]; exact hv, e⟩
theorem bksRe_mem {id b : Nat} : ∀ {H : List Bk} {c : Bk}, c ∈ bksRe id b H → ∃ k ∈ H, k.id ≠ id ∧ c = ⟨k.id, k.ty, k.cells.map (SL.re id b)⟩
  | k :: r, c, h => by
    simp only [bksRe] at h
    cases hb : Nat.beq k.id id with
    | true =>
      rw [hb] at h
      obtain ⟨k', hk, e⟩ := bksRe_mem h
      exact ⟨k', List.mem_cons_of_mem _ hk, e⟩
    | false =>
      rw [hb] at h
      rcases List.mem_cons.1 h with rfl | h
      · exact ⟨k, List.mem_cons_self, fun q => (by rw [q, Nat.beq_refl] at hb; cases hb), rfl⟩
      · obtain ⟨k', hk, e⟩ := bksRe_mem h
        exact ⟨k', List.mem_cons_of_mem _ hk, e⟩
theorem bksRe_pw {id b : Nat} (R : Nat → Nat → Prop) : ∀ {H : List Bk}, H.Pairwise (fun b c => R b.id c.id) → (bksRe id b H).Pairwise (fun b c => R b.id c.id)
  | [], _ => List.Pairwise.nil
  | k :: r, h => by
    obtain ⟨h1, h2⟩ := List.pairwise_cons.1 h
    simp only [bksRe]
    cases hb : Nat.beq k.id id with
    | true => exact bksRe_pw R h2
    | false =>
      refine List.pairwise_cons.2 ⟨fun x hx => ?_, bksRe_pw R h2⟩
      obtain ⟨k', hk, _, rfl⟩ := bksRe_mem hx
      exact h1 k' hk
theorem tyAt_mem {H : List Bk} {i : Nat} {t : TypeId} {cs : List SL} (h : tyAt H i = some t) (h2 : cellsAt H i = some cs) : (⟨i, t, cs⟩ : Bk) ∈ H := by
  induction H with
  | nil => cases h
  | cons b r ih =>
    simp only [tyAt] at h
    simp only [cellsAt] at h2
    cases hb : Nat.beq b.id i with
    | true =>
      rw [hb] at h h2
      have := Nat.eq_of_beq_eq_true hb
      obtain rfl := Option.some.inj h
      obtain rfl := Option.some.inj h2
      subst this
      exact List.mem_cons_self
    | false =>
      rw [hb] at h h2
      exact List.mem_cons_of_mem _ (ih h h2)
theorem Sat.reify {cx : Cx} {β : Va} {n : Nat} {H : List Bk} {F : List Fact} {w : World} (h : Sat cx β n H F w) (id : Nat) {ty : TypeId} {cs : List SL} {vs : List Value} (h1 : tyAt H id = some ty) (h2 : cellsAt H id = some cs) (h3 : allV (cs.map (SL.re id (β id))) = some vs) :
    Sat cx β n (bksRe id (β id) H) (bkF (β id) ty vs :: F) w := by
  have hm := tyAt_mem h1 h2
  have hb := h.blk _ hm
  have hvs := allV_spec h3
  have hcv : cs.map (SL.val β) = vs := by
    have e1 : (cs.map (SL.re id (β id))).map (SL.val β) = cs.map (SL.val β) := by
      rw [List.map_map]; exact List.map_congr_left fun x _ => SL.re_val rfl x
    rw [← e1, hvs, List.map_map]
    have : (SL.val β ∘ SL.v) = (fun x : Value => x) := rfl
    rw [this, List.map_id']
  have hp : w.heap[β id]? = some (.cells vs.toArray ty (0, 0)) := by rw [← hcv]; exact hb
  have h4 : Sat cx β n (bksRe id (β id) H) F w := by
    refine ⟨h.chg, h.fix, fun b hb => ?_, fun b hb => ?_, bksRe_pw (fun x y => β x ≠ β y) h.inj, fun b hb => ?_, h.fact, h.flt, fun f hf b hb => ?_, h.fown, h.sepf, h.pin, h.mrk, h.rnd⟩
    all_goals obtain ⟨k, hk, _, rfl⟩ := bksRe_mem hb
    · have := h.blk k hk
      simp only
      rw [this, List.map_map, show SL.val β ∘ SL.re id (β id) = SL.val β from funext fun x => SL.re_val rfl x]
    · exact h.mine k hk
    · refine ⟨(h.ltb k hk).1, fun x hx => ?_⟩
      obtain ⟨y, hy, rfl⟩ := List.mem_map.1 hx
      exact SL.re_lt ((h.ltb k hk).2 y hy)
    · exact h.sepb f hf k hk
  refine h4.old (bkF (β id) ty vs) hp (fun k hk => ?_) (fun b hb q => ?_) (fun _ k hk => ?_) (fun g hg _ k hk q => ?_) (fun p hp q => ?_)
  · obtain rfl : k = β id := hk; exact h.lt hm
  · obtain ⟨k, hk, hne, rfl⟩ := bksRe_mem hb
    have hq : β k.id = β id := q
    obtain ⟨i, hi⟩ := List.getElem?_of_mem hk
    obtain ⟨j, hj⟩ := List.getElem?_of_mem hm
    obtain ⟨hil, rfl⟩ := List.getElem?_eq_some_iff.1 hi
    obtain ⟨hjl, hje⟩ := List.getElem?_eq_some_iff.1 hj
    have hpw := List.pairwise_iff_getElem.1 h.inj
    rcases Nat.lt_trichotomy i j with hlt | heq | hgt
    · exact hpw i j hil hjl hlt (by rw [hje]; exact hq)
    · subst heq; rw [hje] at hne; exact hne rfl
    · exact hpw j i hjl hil hgt (by rw [hje]; exact hq.symm)
  · obtain rfl : k = β id := hk; exact h.mine _ hm
  · obtain rfl : k = β id := hk; exact h.sepb g hg _ hm q
  · exact h.pinBk hp hm (Eq.symm q)
theorem reify_rule {cx : Cx} (g : Good cx) {c : Code} {Q : Exit → KT} {n : Nat} {env : Env} {H : List Bk} {F : List Fact} (id : Nat) {ty : TypeId} {cs : List SL} (vs : Nat → List Value) (h1 : tyAt H id = some ty) (h2 : cellsAt H id = some cs) (h3 : ∀ b, allV (cs.map (SL.re id b)) = some (vs b))
    (h : ∀ b, cwp cx c Q n (envRe id b env) (bksRe id b H) (bkF b ty (vs b) :: F)) : Tri cx c Q n env H F := by
  refine ⟨fun β a w hi => (cwp_sound g c Q n _ _ _ (h (β id))).run β a w ⟨fun t s ht => ?_, hi.size, hi.df, fun t s ht => ?_, hi.sat.reify id h1 h2 (h3 (β id))⟩⟩
  · obtain ⟨u, hu, rfl⟩ := envRe_get ht
    rw [SV.re_val rfl]; exact hi.ag t u hu
  · obtain ⟨u, hu, rfl⟩ := envRe_get ht
    exact SV.re_lt (hi.lte t u hu)
structure EntX {ι : Type} (cx : Cx) (n : Nat) (env : Env) (H : List Bk) (F : List Fact) (T : ι → Prop) (n' : Nat) (E : ι → Env) (HH : ι → List Bk) (FF : ι → List Fact) : Prop where
  run : ∀ β a w, Inv cx β n env H F a w → ∃ (i : ι) (β' : Va), T i ∧ β'.pins = β.pins ∧ β'.marks = β.marks ∧ Inv cx β' n' (E i) (HH i) (FF i) a w
section
variable {ι : Type} {cx : Cx} {n n' : Nat} {env : Env} {H : List Bk} {F : List Fact} {T : ι → Prop} {E : ι → Env} {HH : ι → List Bk} {FF : ι → List Fact}
theorem EntX.of (i : ι) (hi : T i) (h : Ent cx n env H F n' (E i) (HH i) (FF i)) : EntX cx n env H F T n' E HH FF :=
  ⟨fun β a w hv => by obtain ⟨β', h1, h2, h3⟩ := h.run β a w hv; exact ⟨i, β', hi, h1, h2, h3⟩⟩
theorem EntX.reify (id : Nat) {ty : TypeId} {cs : List SL} (vs : Nat → List Value) (h1 : tyAt H id = some ty) (h2 : cellsAt H id = some cs) (h3 : ∀ b, allV (cs.map (SL.re id b)) = some (vs b))
    (h : ∀ b, EntX cx n (envRe id b env) (bksRe id b H) (bkF b ty (vs b) :: F) T n' E HH FF) : EntX cx n env H F T n' E HH FF := by
  refine ⟨fun β a w hi => ?_⟩
  refine (h (β id)).run β a w ⟨fun t s ht => ?_, hi.size, hi.df, fun t s ht => ?_, hi.sat.reify id h1 h2 (h3 (β id))⟩
  · obtain ⟨u, hu, rfl⟩ := envRe_get ht
    rw [SV.re_val rfl]; exact hi.ag t u hu
  · obtain ⟨u, hu, rfl⟩ := envRe_get ht
    exact SV.re_lt (hi.lte t u hu)
end
def exitIs (id : Nat) : Exit → Bool
  | .exit i => Nat.beq i id
  | _ => false
def joinQ {κ : Type} (cx : Cx) (id : Nat) (X : κ → Prop) (n2 : Nat) (E2 : κ → Env) (HH2 : κ → List Bk) (FF2 : κ → List Fact) (Q : Exit → KT) : Exit → KT := fun e => match exitIs id e with
  | true => fun m env H F => EntX cx m env H F X n2 E2 HH2 FF2
  | false => Q e
theorem tri_exit {κ : Type} {cx : Cx} {n : Nat} {env : Env} {H : List Bk} {F : List Fact} {c : Code} {Q : Exit → KT} (id : Nat) (X : κ → Prop) (n2 : Nat) (E2 : κ → Env) (HH2 : κ → List Bk) (FF2 : κ → List Fact)
    (hx : ∀ j, X j → Q (.exit id) n2 (E2 j) (HH2 j) (FF2 j)) (h : Tri cx c (joinQ cx id X n2 E2 HH2 FF2 Q) n env H F) : Tri cx c Q n env H F := by
  refine ⟨fun β a w hv => wpIn_mono (h.run β a w hv) fun e a' w' hp => ?_⟩
  have plain : exitIs id e = false → After cx (joinQ cx id X n2 E2 HH2 FF2 Q e) a' w' → After cx (Q e) a' w' := by
    intro he hq
    unfold joinQ at hq
    rw [he] at hq
    exact hq
  cases e with
  | exit i =>
    cases hb : exitIs id (.exit i) with
    | false => exact plain hb hp
    | true =>
      obtain rfl : i = id := Nat.eq_of_beq_eq_true hb
      obtain ⟨β', n1, env1, H1, F1, hi, hq⟩ := hp
      unfold joinQ at hq
      rw [hb] at hq
      obtain ⟨j, β2, hj, _, _, hi2⟩ := hq.run β' a' w' hi
      exact ⟨β2, n2, E2 j, HH2 j, FF2 j, hi2, hx j hj⟩
  | normal => exact plain rfl hp
  | ret => exact plain rfl hp
  | goto l => exact plain rfl hp
  | panic c => exact hp
  | outgrown => exact hp
#print axioms tri_exit
#print axioms reify_rule
end Go.Proofs.YtnhckgipdoojeaaGreatDoor.Sx

namespace Go.Proofs.YtnhckgipdoojeaaGreatDoor.Sx
open Go
attribute [local irreducible] Calls
def oldF (W0 : World) : Fact where
  own := false
  D := fun k => k < W0.heap.size
  p := fun w => ∀ k, k < W0.heap.size → w.heap[k]? = W0.heap[k]?
  st := fun w w' hs h k hk => (hs k hk).trans (h k hk)
theorem Rd.old {W0 w : World} {size : Nat} {A : Option Addr} {n : Nat} {xs : List Value} (h : Rd size A n xs W0) (ho : (oldF W0).p w) : Rd size A n xs w := by
  have hl := rd_lt h
  refine ⟨h.1, fun hn => ?_⟩
  obtain ⟨ad, hA, hc⟩ := h.2 hn
  refine ⟨ad, hA, fun j u hu => ?_⟩
  rw [← hc j u hu]
  have hb : (ad.add j).block = ad.block := by unfold Addr.add; split <;> rfl
  refine World.cell?_of_block ?_
  rw [hb]
  have hj : j < xs.length := (List.getElem?_eq_some_iff.1 hu).1
  exact ho _ (hl _ ⟨by rw [← h.1]; omega, ad, hA, rfl⟩)
theorem old_sat {cx : Cx} {w : World} (hW : cx.W0 = w := by rfl) (hbs : cx.bs = [] := by rfl) (hr : cx.rnd = none := by rfl) (hpn : cx.pn = [] := by rfl) : Sat cx Va.z 0 [] [oldF w] w :=
  (Sat.start hW hbs rfl rfl hr hpn).old (oldF w) (fun _ _ => rfl) (fun _ h => h) (fun _ h => by cases h) (fun q => by cases q) (fun _ h => by cases h)
theorem con_row {P : Program} {k : FuncId} {args : Array Value} {w : World} {e : Nat} {l : List UInt8} (h : Calls P k args w fun en w' => ∃ v, en = .returned v ∧ ∃ A c, v = .slice A l.length c ∧ Chg None_ w w' ∧ NewRow w w' A l c e) :
    Con P k args w [] fun v Fs => ∃ A c, v = .slice A l.length c ∧ l.length ≤ c ∧ c ≤ maxLen ∧ Fs = [browF e A l c] := by
  refine Calls.mono h ?_
  rintro en w' ⟨v, rfl, A, c, rfl, hc, hn⟩
  refine ⟨_, rfl, [browF e A l c], ⟨A, c, rfl, hn.1, hn.2.1, rfl⟩, by rw [Un.nil]; exact hc, ⟨fun g hg => ?_, fun g hg k hk => ?_, List.pairwise_singleton _ _⟩, ⟨rfl, trivial⟩, fun g hg k hk => ?_⟩
  · obtain rfl := List.mem_singleton.1 hg; exact hn.2.2.1
  · obtain rfl := List.mem_singleton.1 hg; exact (hn.lt k hk).2
  · obtain rfl := List.mem_singleton.1 hg; exact .inr (hn.lt k hk).1
theorem pu_of {P : Program} {k : FuncId} {args : Array Value} {w : World} {v : Value} (h : Calls P k args w fun en w' => ∃ u, en = .returned u ∧ u = v ∧ Chg None_ w w') : Pu P k args w v := by
  refine Calls.mono h ?_
  rintro en w' ⟨u, rfl, rfl, hc⟩
  exact ⟨_, rfl, [], ⟨rfl, rfl⟩, by rw [Un.nil]; exact hc, ⟨fun _ q => (by cases q), fun _ q => (by cases q), List.Pairwise.nil⟩, trivial, fun _ q => (by cases q)⟩
end Go.Proofs.YtnhckgipdoojeaaGreatDoor.Sx

namespace Go.Proofs.YtnhckgipdoojeaaGreatDoor.Sx
open Go
section
variable {cx : Cx} {n : Nat} {env : Env} {H : List Bk} {F : List Fact}
end
end Go.Proofs.YtnhckgipdoojeaaGreatDoor.Sx

namespace Go.Proofs.YtnhckgipdoojeaaGreatDoor.Sx
open Go
theorem subPerm {cx : Cx} {n : Nat} {H : List Bk} {F : List Fact} (js : List Nat) (hn : nodupB js = true := by rfl) : Sub cx n H F H (takeIx F js) := fun _ _ h => h.perm js hn
theorem Rd.cell1 {w : World} {ad : Addr} {n : Nat} {xs : List Value} (h : Rd 1 (some ad) n xs w) {k : Nat} {u : Value} (hu : xs[k]? = some u) : w.cell? (ad.add (k * 1)) = some u := by
  have hk : k < xs.length := (List.getElem?_eq_some_iff.1 hu).1
  obtain ⟨ad', q, hc⟩ := h.2 (by have := h.1; omega)
  obtain rfl := Option.some.inj q
  rw [Nat.mul_one]
  exact hc k u hu
theorem at_lt {α : Type} {l : List α} {k : Nat} (h : k < l.length) : ∃ x, l[k]? = some x ∧ x ∈ l := ⟨l[k], List.getElem?_eq_getElem h, List.getElem_mem h⟩
section
variable {cx : Cx} {β : Va} {n : Nat} {env : Env} {H : List Bk} {F : List Fact} {w : World}
theorem Rd.take {A : Option Addr} {m : Nat} {ys : List Value} (h : Rd 1 A m ys w) {k : Nat} (hk : k ≤ m) : Rd 1 A k (ys.take k) w := by
  refine ⟨?_, fun hp => ?_⟩
  · rw [List.length_take, h.1]; omega
  · obtain ⟨ad, q, hc⟩ := h.2 (by omega)
    refine ⟨ad, q, fun j u hu => hc j u ?_⟩
    rw [List.getElem?_take] at hu
    split at hu
    · exact hu
    · cases hu
theorem Sat.bkSet (h : Sat cx β n H F w) (j : Nat) {b ty o : Nat} {cs us : List Value} (hj : nth F j = some (bkF b ty cs)) (hl : o + us.length ≤ cs.length) (h1 : ∀ u ∈ us, u.oneCell' = true) :
    ∃ w', (storeCells ((⟨b, 0, none⟩ : Addr).add o) us 0).run cx.P w = .ok () w' ∧ Sat cx β n H (putAt F j (bkF b ty (putAll cs o us))) w' := by
  have hb : w.heap[b]? = some (.cells cs.toArray ty (0, 0)) := h.get j hj
  obtain ⟨w', e1, e2, e3, e4⟩ := run_storeCells (P := cx.P) b ty us o 0 w cs hb h1 (by omega)
  refine ⟨w', by rw [add_none, Nat.zero_add]; exact e1, h.upd hj rfl (Chg.mono e3 (fun i _ q => by subst q; rfl)) ?_ (fun q hq => .inl hq)⟩
  show w'.heap[b]? = _
  rw [e2, Nat.add_zero]
end
end Go.Proofs.YtnhckgipdoojeaaGreatDoor.Sx

namespace Go.Proofs.YtnhckgipdoojeaaGreatDoor.Sx
open Go
noncomputable def ti3 : TI := { desc := .int .i64, agg := false, size := 1, bytes := 8, zero := [.int .i64 0], fields := [], ftys := [] }
theorem ok3 : TiOk Tryz.prog 3 ti3 := ⟨by kernel_rfl, by kernel_rfl, rfl, by kernel_rfl, by kernel_rfl, by kernel_rfl⟩
noncomputable def ti4 : TI := { desc := .bool, agg := false, size := 1, bytes := 1, zero := [.bool false], fields := [], ftys := [] }
theorem ok4 : TiOk Tryz.prog 4 ti4 := ⟨by kernel_rfl, by kernel_rfl, rfl, by kernel_rfl, by kernel_rfl, by kernel_rfl⟩
noncomputable def ti5 : TI := { desc := .int .u8, agg := false, size := 1, bytes := 1, zero := [.int .u8 0], fields := [], ftys := [] }
theorem ok5 : TiOk Tryz.prog 5 ti5 := ⟨by kernel_rfl, by kernel_rfl, rfl, by kernel_rfl, by kernel_rfl, by kernel_rfl⟩
noncomputable def ti9 : TI := { desc := .string, agg := false, size := 1, bytes := 16, zero := [.string ByteArray.empty], fields := [], ftys := [] }
theorem ok9 : TiOk Tryz.prog 9 ti9 := ⟨by kernel_rfl, by kernel_rfl, rfl, by kernel_rfl, by kernel_rfl, by kernel_rfl⟩
noncomputable def ti21 : TI := { desc := .int .i32, agg := false, size := 1, bytes := 4, zero := [.int .i32 0], fields := [], ftys := [] }
theorem ok21 : TiOk Tryz.prog 21 ti21 := ⟨by kernel_rfl, by kernel_rfl, rfl, by kernel_rfl, by kernel_rfl, by kernel_rfl⟩
noncomputable def ti22 : TI := { desc := .slice 5, agg := false, size := 1, bytes := 24, zero := [.slice none 0 0], fields := [], ftys := [] }
theorem ok22 : TiOk Tryz.prog 22 ti22 := ⟨by kernel_rfl, by kernel_rfl, rfl, by kernel_rfl, by kernel_rfl, by kernel_rfl⟩
noncomputable def ti24 : TI := { desc := .pointer 63, agg := false, size := 1, bytes := 8, zero := [.pointer none], fields := [], ftys := [] }
theorem ok24 : TiOk Tryz.prog 24 ti24 := ⟨by kernel_rfl, by kernel_rfl, rfl, by kernel_rfl, by kernel_rfl, by kernel_rfl⟩
noncomputable def ti27 : TI := { desc := .int .i64, agg := false, size := 1, bytes := 8, zero := [.int .i64 0], fields := [], ftys := [] }
theorem ok27 : TiOk Tryz.prog 27 ti27 := ⟨by kernel_rfl, by kernel_rfl, rfl, by kernel_rfl, by kernel_rfl, by kernel_rfl⟩
noncomputable def ti36 : TI := { desc := .struct, agg := true, size := 3, bytes := 48, zero := [.string ByteArray.empty, .string ByteArray.empty, .string ByteArray.empty], fields := [(0, 1), (1, 1), (2, 1)], ftys := [9, 9, 9] }
theorem ok36 : TiOk Tryz.prog 36 ti36 := ⟨by kernel_rfl, by kernel_rfl, rfl, by kernel_rfl, by kernel_rfl, by kernel_rfl⟩
noncomputable def ti39 : TI := { desc := .slice 27, agg := false, size := 1, bytes := 24, zero := [.slice none 0 0], fields := [], ftys := [] }
theorem ok39 : TiOk Tryz.prog 39 ti39 := ⟨by kernel_rfl, by kernel_rfl, rfl, by kernel_rfl, by kernel_rfl, by kernel_rfl⟩
noncomputable def ti45 : TI := { desc := .pointer 79, agg := false, size := 1, bytes := 8, zero := [.pointer none], fields := [], ftys := [] }
theorem ok45 : TiOk Tryz.prog 45 ti45 := ⟨by kernel_rfl, by kernel_rfl, rfl, by kernel_rfl, by kernel_rfl, by kernel_rfl⟩
noncomputable def ti50 : TI := { desc := .slice 85, agg := false, size := 1, bytes := 24, zero := [.slice none 0 0], fields := [], ftys := [] }
theorem ok50 : TiOk Tryz.prog 50 ti50 := ⟨by kernel_rfl, by kernel_rfl, rfl, by kernel_rfl, by kernel_rfl, by kernel_rfl⟩
noncomputable def ti61 : TI := { desc := .struct, agg := true, size := 5, bytes := 88, zero := [.string ByteArray.empty, .string ByteArray.empty, .string ByteArray.empty, .string ByteArray.empty, .slice none 0 0], fields := [(0, 1), (1, 1), (2, 1), (3, 1), (4, 1)], ftys := [9, 9, 9, 9, 50] }
theorem ok61 : TiOk Tryz.prog 61 ti61 := ⟨by kernel_rfl, by kernel_rfl, rfl, by kernel_rfl, by kernel_rfl, by kernel_rfl⟩
noncomputable def ti63 : TI := { desc := .struct, agg := true, size := 18, bytes := 280, zero := [.pointer none, .string ByteArray.empty, .string ByteArray.empty, .string ByteArray.empty, .string ByteArray.empty, .int .i64 0, .string ByteArray.empty, .string ByteArray.empty, .string ByteArray.empty, .string ByteArray.empty, .slice none 0 0, .slice none 0 0, .string ByteArray.empty, .string ByteArray.empty, .bool false, .string ByteArray.empty, .slice none 0 0, .int .i64 0], fields := [(0, 1), (1, 3), (4, 1), (5, 1), (6, 5), (11, 1), (12, 1), (13, 1), (14, 1), (15, 1), (16, 1), (17, 1)], ftys := [45, 36, 9, 3, 61, 22, 9, 9, 4, 9, 22, 27] }
theorem ok63 : TiOk Tryz.prog 63 ti63 := ⟨by kernel_rfl, by kernel_rfl, rfl, by kernel_rfl, by kernel_rfl, by kernel_rfl⟩
noncomputable def ti70 : TI := { desc := .struct, agg := true, size := 2, bytes := 32, zero := [.int .u8 0, .slice none 0 0], fields := [(0, 1), (1, 1)], ftys := [5, 22] }
theorem ok70 : TiOk Tryz.prog 70 ti70 := ⟨by kernel_rfl, by kernel_rfl, rfl, by kernel_rfl, by kernel_rfl, by kernel_rfl⟩
noncomputable def ti76 : TI := { desc := .map 9 3, agg := false, size := 1, bytes := 8, zero := [.map none], fields := [], ftys := [] }
theorem ok76 : TiOk Tryz.prog 76 ti76 := ⟨by kernel_rfl, by kernel_rfl, rfl, by kernel_rfl, by kernel_rfl, by kernel_rfl⟩
noncomputable def ti77 : TI := { desc := .slice 260, agg := false, size := 1, bytes := 24, zero := [.slice none 0 0], fields := [], ftys := [] }
theorem ok77 : TiOk Tryz.prog 77 ti77 := ⟨by kernel_rfl, by kernel_rfl, rfl, by kernel_rfl, by kernel_rfl, by kernel_rfl⟩
noncomputable def ti79 : TI := { desc := .struct, agg := true, size := 4, bytes := 40, zero := [.bool false, .bool false, .slice none 0 0, .map none], fields := [(0, 1), (1, 1), (2, 1), (3, 1)], ftys := [4, 4, 77, 76] }
theorem ok79 : TiOk Tryz.prog 79 ti79 := ⟨by kernel_rfl, by kernel_rfl, rfl, by kernel_rfl, by kernel_rfl, by kernel_rfl⟩
noncomputable def ti85 : TI := { desc := .struct, agg := true, size := 2, bytes := 32, zero := [.string ByteArray.empty, .string ByteArray.empty], fields := [(0, 1), (1, 1)], ftys := [9, 9] }
theorem ok85 : TiOk Tryz.prog 85 ti85 := ⟨by kernel_rfl, by kernel_rfl, rfl, by kernel_rfl, by kernel_rfl, by kernel_rfl⟩
noncomputable def ti98 : TI := { desc := .slice 3, agg := false, size := 1, bytes := 24, zero := [.slice none 0 0], fields := [], ftys := [] }
theorem ok98 : TiOk Tryz.prog 98 ti98 := ⟨by kernel_rfl, by kernel_rfl, rfl, by kernel_rfl, by kernel_rfl, by kernel_rfl⟩
noncomputable def ti170 : TI := { desc := .pointer 172, agg := false, size := 1, bytes := 8, zero := [.pointer none], fields := [], ftys := [] }
theorem ok170 : TiOk Tryz.prog 170 ti170 := ⟨by kernel_rfl, by kernel_rfl, rfl, by kernel_rfl, by kernel_rfl, by kernel_rfl⟩
noncomputable def ti172 : TI := { desc := .struct, agg := true, size := 2, bytes := 32, zero := [.pointer none, .slice none 0 0], fields := [(0, 1), (1, 1)], ftys := [170, 22] }
theorem ok172 : TiOk Tryz.prog 172 ti172 := ⟨by kernel_rfl, by kernel_rfl, rfl, by kernel_rfl, by kernel_rfl, by kernel_rfl⟩
noncomputable def ti214 : TI := { desc := .slice 216, agg := false, size := 1, bytes := 24, zero := [.slice none 0 0], fields := [], ftys := [] }
theorem ok214 : TiOk Tryz.prog 214 ti214 := ⟨by kernel_rfl, by kernel_rfl, rfl, by kernel_rfl, by kernel_rfl, by kernel_rfl⟩
noncomputable def ti216 : TI := { desc := .struct, agg := true, size := 2, bytes := 8, zero := [.int .i32 0, .int .i32 0], fields := [(0, 1), (1, 1)], ftys := [21, 21] }
theorem ok216 : TiOk Tryz.prog 216 ti216 := ⟨by kernel_rfl, by kernel_rfl, rfl, by kernel_rfl, by kernel_rfl, by kernel_rfl⟩
noncomputable def ti217 : TI := { desc := .array 9 216, agg := true, size := 18, bytes := 72, zero := [.int .i32 0, .int .i32 0, .int .i32 0, .int .i32 0, .int .i32 0, .int .i32 0, .int .i32 0, .int .i32 0, .int .i32 0, .int .i32 0, .int .i32 0, .int .i32 0, .int .i32 0, .int .i32 0, .int .i32 0, .int .i32 0, .int .i32 0, .int .i32 0], fields := [], ftys := [] }
theorem ok217 : TiOk Tryz.prog 217 ti217 := ⟨by kernel_rfl, by kernel_rfl, rfl, by kernel_rfl, by kernel_rfl, by kernel_rfl⟩
noncomputable def ti223 : TI := { desc := .pointer 5, agg := false, size := 1, bytes := 8, zero := [.pointer none], fields := [], ftys := [] }
theorem ok223 : TiOk Tryz.prog 223 ti223 := ⟨by kernel_rfl, by kernel_rfl, rfl, by kernel_rfl, by kernel_rfl, by kernel_rfl⟩
noncomputable def ti260 : TI := { desc := .struct, agg := true, size := 6, bytes := 112, zero := [.int .i64 0, .slice none 0 0, .slice none 0 0, .int .i64 0, .slice none 0 0, .slice none 0 0], fields := [(0, 1), (1, 1), (2, 1), (3, 1), (4, 1), (5, 1)], ftys := [3, 22, 22, 3, 98, 22] }
theorem ok260 : TiOk Tryz.prog 260 ti260 := ⟨by kernel_rfl, by kernel_rfl, rfl, by kernel_rfl, by kernel_rfl, by kernel_rfl⟩
noncomputable def ti280 : TI := { desc := .other, agg := false, size := 1, bytes := 8, zero := [.nilFunc], fields := [], ftys := [] }
theorem ok280 : TiOk Tryz.prog 280 ti280 := ⟨by kernel_rfl, by kernel_rfl, rfl, by kernel_rfl, by kernel_rfl, by kernel_rfl⟩
noncomputable def ti281 : TI := { desc := .array 6 216, agg := true, size := 12, bytes := 48, zero := [.int .i32 0, .int .i32 0, .int .i32 0, .int .i32 0, .int .i32 0, .int .i32 0, .int .i32 0, .int .i32 0, .int .i32 0, .int .i32 0, .int .i32 0, .int .i32 0], fields := [], ftys := [] }
theorem ok281 : TiOk Tryz.prog 281 ti281 := ⟨by kernel_rfl, by kernel_rfl, rfl, by kernel_rfl, by kernel_rfl, by kernel_rfl⟩
noncomputable def ti282 : TI := { desc := .array 5 216, agg := true, size := 10, bytes := 40, zero := [.int .i32 0, .int .i32 0, .int .i32 0, .int .i32 0, .int .i32 0, .int .i32 0, .int .i32 0, .int .i32 0, .int .i32 0, .int .i32 0], fields := [], ftys := [] }
theorem ok282 : TiOk Tryz.prog 282 ti282 := ⟨by kernel_rfl, by kernel_rfl, rfl, by kernel_rfl, by kernel_rfl, by kernel_rfl⟩
noncomputable def ti284 : TI := { desc := .struct, agg := true, size := 4, bytes := 16, zero := [.int .i64 0, .int .u8 0, .int .u8 0, .int .i32 0], fields := [(0, 1), (1, 1), (2, 1), (3, 1)], ftys := [3, 5, 5, 21] }
theorem ok284 : TiOk Tryz.prog 284 ti284 := ⟨by kernel_rfl, by kernel_rfl, rfl, by kernel_rfl, by kernel_rfl, by kernel_rfl⟩
noncomputable def ti285 : TI := { desc := .array 4 284, agg := true, size := 16, bytes := 64, zero := [.int .i64 0, .int .u8 0, .int .u8 0, .int .i32 0, .int .i64 0, .int .u8 0, .int .u8 0, .int .i32 0, .int .i64 0, .int .u8 0, .int .u8 0, .int .i32 0, .int .i64 0, .int .u8 0, .int .u8 0, .int .i32 0], fields := [], ftys := [] }
theorem ok285 : TiOk Tryz.prog 285 ti285 := ⟨by kernel_rfl, by kernel_rfl, rfl, by kernel_rfl, by kernel_rfl, by kernel_rfl⟩
abbrev ty_bool : TypeId := 4
abbrev ty_uint8 : TypeId := 5
abbrev ty_string : TypeId := 9
abbrev ty_sl_uint8 : TypeId := 22
abbrev ty_api_Errno : TypeId := 27
abbrev ty_scram_First : TypeId := 61
abbrev ty_guest_Guest : TypeId := 63
abbrev ty_box_Box : TypeId := 79
abbrev ty_strings_Builder : TypeId := 172
abbrev ty_ptr_uint8 : TypeId := 223
abbrev ty_name_form : TypeId := 284
theorem mixed : Tryz.prog.follows .mixedOrders = true := by kernel_rfl
noncomputable def cx_ostiarylaw26_GuestNil (W0 : World) (S : Nat → Prop) (bs : List Nat := []) : Cx := ⟨Tryz.prog, W0, S, 124, [(3, ti3), (5, ti5), (9, ti9), (22, ti22), (24, ti24), (27, ti27), (36, ti36), (39, ti39), (45, ti45)], [5, 6, 7, 8, 9, 10, 11, 12, 13, 14, 15, 16, 17, 18, 19, 20, 21, 22], bs, none, []⟩
abbrev n_ostiarylaw26_GuestNil : FuncId := 3
theorem b_ostiarylaw26_GuestNil : Tryz.prog.funcs[n_ostiarylaw26_GuestNil]? = some Tryz.f3 := Tryz.func3
theorem good_ostiarylaw26_GuestNil (W0 : World) (S : Nat → Prop) (bs : List Nat := []) : Good (cx_ostiarylaw26_GuestNil W0 S bs) := ⟨fmc ⟨ok3, fmc ⟨ok5, fmc ⟨ok9, fmc ⟨ok22, fmc ⟨ok24, fmc ⟨ok27, fmc ⟨ok36, fmc ⟨ok39, fmc ⟨ok45, (fun _ h => by cases h)⟩⟩⟩⟩⟩⟩⟩⟩⟩, fmc ⟨by kernel_rfl, fmc ⟨by kernel_rfl, fmc ⟨by kernel_rfl, fmc ⟨by kernel_rfl, fmc ⟨by kernel_rfl, fmc ⟨by kernel_rfl, fmc ⟨by kernel_rfl, fmc ⟨by kernel_rfl, fmc ⟨by kernel_rfl, fmc ⟨by kernel_rfl, fmc ⟨by kernel_rfl, fmc ⟨by kernel_rfl, fmc ⟨by kernel_rfl, fmc ⟨by kernel_rfl, fmc ⟨by kernel_rfl, fmc ⟨by kernel_rfl, fmc ⟨by kernel_rfl, fmc ⟨by kernel_rfl, (fun _ h => by cases h)⟩⟩⟩⟩⟩⟩⟩⟩⟩⟩⟩⟩⟩⟩⟩⟩⟩⟩, mixed⟩
noncomputable def cx_ostiarylaw26_awake (W0 : World) (S : Nat → Prop) (bs : List Nat := []) : Cx := ⟨Tryz.prog, W0, S, 42, [(3, ti3), (4, ti4), (5, ti5), (9, ti9), (22, ti22), (24, ti24), (27, ti27), (36, ti36), (45, ti45)], [8, 9, 16, 17, 19, 23], bs, none, []⟩
abbrev n_ostiarylaw26_awake : FuncId := 5
theorem b_ostiarylaw26_awake : Tryz.prog.funcs[n_ostiarylaw26_awake]? = some Tryz.f5 := Tryz.func5
theorem good_ostiarylaw26_awake (W0 : World) (S : Nat → Prop) (bs : List Nat := []) : Good (cx_ostiarylaw26_awake W0 S bs) := ⟨fmc ⟨ok3, fmc ⟨ok4, fmc ⟨ok5, fmc ⟨ok9, fmc ⟨ok22, fmc ⟨ok24, fmc ⟨ok27, fmc ⟨ok36, fmc ⟨ok45, (fun _ h => by cases h)⟩⟩⟩⟩⟩⟩⟩⟩⟩, fmc ⟨by kernel_rfl, fmc ⟨by kernel_rfl, fmc ⟨by kernel_rfl, fmc ⟨by kernel_rfl, fmc ⟨by kernel_rfl, fmc ⟨by kernel_rfl, (fun _ h => by cases h)⟩⟩⟩⟩⟩⟩, mixed⟩
noncomputable def cx_ostiaryref01_CutText (W0 : World) (S : Nat → Prop) (bs : List Nat := []) : Cx := ⟨Tryz.prog, W0, S, 11, [(3, ti3), (9, ti9)], [], bs, none, []⟩
abbrev n_ostiaryref01_CutText : FuncId := 6
theorem b_ostiaryref01_CutText : Tryz.prog.funcs[n_ostiaryref01_CutText]? = some Tryz.f6 := Tryz.func6
theorem good_ostiaryref01_CutText (W0 : World) (S : Nat → Prop) (bs : List Nat := []) : Good (cx_ostiaryref01_CutText W0 S bs) := ⟨fmc ⟨ok3, fmc ⟨ok9, (fun _ h => by cases h)⟩⟩, (fun _ h => by cases h), mixed⟩
noncomputable def cx_ostiaryref01_Cut (W0 : World) (S : Nat → Prop) (bs : List Nat := []) : Cx := ⟨Tryz.prog, W0, S, 13, [(3, ti3), (5, ti5), (22, ti22)], [], bs, none, []⟩
abbrev n_ostiaryref01_Cut : FuncId := 7
theorem b_ostiaryref01_Cut : Tryz.prog.funcs[n_ostiaryref01_Cut]? = some Tryz.f7 := Tryz.func7
theorem good_ostiaryref01_Cut (W0 : World) (S : Nat → Prop) (bs : List Nat := []) : Good (cx_ostiaryref01_Cut W0 S bs) := ⟨fmc ⟨ok3, fmc ⟨ok5, fmc ⟨ok22, (fun _ h => by cases h)⟩⟩⟩, (fun _ h => by cases h), mixed⟩
noncomputable def cx_guest_Guest_Hello (W0 : World) (S : Nat → Prop) (bs : List Nat := []) : Cx := ⟨Tryz.prog, W0, S, 20, [(3, ti3), (4, ti4), (5, ti5), (9, ti9), (22, ti22), (24, ti24), (27, ti27), (36, ti36), (45, ti45), (50, ti50), (61, ti61), (63, ti63), (85, ti85), (98, ti98)], [27, 28], bs, none, []⟩
abbrev n_guest_Guest_Hello : FuncId := 8
theorem b_guest_Guest_Hello : Tryz.prog.funcs[n_guest_Guest_Hello]? = some Tryz.f8 := Tryz.func8
theorem good_guest_Guest_Hello (W0 : World) (S : Nat → Prop) (bs : List Nat := []) : Good (cx_guest_Guest_Hello W0 S bs) := ⟨fmc ⟨ok3, fmc ⟨ok4, fmc ⟨ok5, fmc ⟨ok9, fmc ⟨ok22, fmc ⟨ok24, fmc ⟨ok27, fmc ⟨ok36, fmc ⟨ok45, fmc ⟨ok50, fmc ⟨ok61, fmc ⟨ok63, fmc ⟨ok85, fmc ⟨ok98, (fun _ h => by cases h)⟩⟩⟩⟩⟩⟩⟩⟩⟩⟩⟩⟩⟩⟩, fmc ⟨by kernel_rfl, fmc ⟨by kernel_rfl, (fun _ h => by cases h)⟩⟩, mixed⟩
noncomputable def cx_guest_Guest_Begin (W0 : World) (S : Nat → Prop) (bs : List Nat := []) : Cx := ⟨Tryz.prog, W0, S, 44, [(3, ti3), (4, ti4), (5, ti5), (9, ti9), (22, ti22), (24, ti24), (27, ti27), (36, ti36), (45, ti45), (50, ti50), (61, ti61), (63, ti63), (85, ti85), (98, ti98)], [27, 28, 29], bs, none, []⟩
abbrev n_guest_Guest_Begin : FuncId := 9
theorem b_guest_Guest_Begin : Tryz.prog.funcs[n_guest_Guest_Begin]? = some Tryz.f9 := Tryz.func9
def p_guest_Guest_Begin_4 : Plan := .take 0 (.take 1 (.take 2 (.take 3 (.take 4 (.take 5 (.take 6 (.take 7 (.take 8 (.take 9 (.take 10 (.take 11 (.exec 12 (.exec 13 (.done))))))))))))))
theorem good_guest_Guest_Begin (W0 : World) (S : Nat → Prop) (bs : List Nat := []) : Good (cx_guest_Guest_Begin W0 S bs) := ⟨fmc ⟨ok3, fmc ⟨ok4, fmc ⟨ok5, fmc ⟨ok9, fmc ⟨ok22, fmc ⟨ok24, fmc ⟨ok27, fmc ⟨ok36, fmc ⟨ok45, fmc ⟨ok50, fmc ⟨ok61, fmc ⟨ok63, fmc ⟨ok85, fmc ⟨ok98, (fun _ h => by cases h)⟩⟩⟩⟩⟩⟩⟩⟩⟩⟩⟩⟩⟩⟩, fmc ⟨by kernel_rfl, fmc ⟨by kernel_rfl, fmc ⟨by kernel_rfl, (fun _ h => by cases h)⟩⟩⟩, mixed⟩
noncomputable def cx_guest_Guest_Request (W0 : World) (S : Nat → Prop) (bs : List Nat := []) : Cx := ⟨Tryz.prog, W0, S, 46, [(3, ti3), (4, ti4), (5, ti5), (9, ti9), (22, ti22), (24, ti24), (27, ti27), (36, ti36), (45, ti45), (50, ti50), (61, ti61), (63, ti63), (85, ti85), (98, ti98)], [27, 30, 31, 32], bs, none, []⟩
abbrev n_guest_Guest_Request : FuncId := 10
theorem b_guest_Guest_Request : Tryz.prog.funcs[n_guest_Guest_Request]? = some Tryz.f10 := Tryz.func10
theorem good_guest_Guest_Request (W0 : World) (S : Nat → Prop) (bs : List Nat := []) : Good (cx_guest_Guest_Request W0 S bs) := ⟨fmc ⟨ok3, fmc ⟨ok4, fmc ⟨ok5, fmc ⟨ok9, fmc ⟨ok22, fmc ⟨ok24, fmc ⟨ok27, fmc ⟨ok36, fmc ⟨ok45, fmc ⟨ok50, fmc ⟨ok61, fmc ⟨ok63, fmc ⟨ok85, fmc ⟨ok98, (fun _ h => by cases h)⟩⟩⟩⟩⟩⟩⟩⟩⟩⟩⟩⟩⟩⟩, fmc ⟨by kernel_rfl, fmc ⟨by kernel_rfl, fmc ⟨by kernel_rfl, fmc ⟨by kernel_rfl, (fun _ h => by cases h)⟩⟩⟩⟩, mixed⟩
noncomputable def cx_guest_Guest_Show (W0 : World) (S : Nat → Prop) (bs : List Nat := []) : Cx := ⟨Tryz.prog, W0, S, 26, [(3, ti3), (4, ti4), (5, ti5), (9, ti9), (22, ti22), (24, ti24), (27, ti27), (36, ti36), (45, ti45), (50, ti50), (61, ti61), (63, ti63), (85, ti85), (98, ti98)], [27, 28], bs, none, []⟩
abbrev n_guest_Guest_Show : FuncId := 11
theorem b_guest_Guest_Show : Tryz.prog.funcs[n_guest_Guest_Show]? = some Tryz.f11 := Tryz.func11
theorem good_guest_Guest_Show (W0 : World) (S : Nat → Prop) (bs : List Nat := []) : Good (cx_guest_Guest_Show W0 S bs) := ⟨fmc ⟨ok3, fmc ⟨ok4, fmc ⟨ok5, fmc ⟨ok9, fmc ⟨ok22, fmc ⟨ok24, fmc ⟨ok27, fmc ⟨ok36, fmc ⟨ok45, fmc ⟨ok50, fmc ⟨ok61, fmc ⟨ok63, fmc ⟨ok85, fmc ⟨ok98, (fun _ h => by cases h)⟩⟩⟩⟩⟩⟩⟩⟩⟩⟩⟩⟩⟩⟩, fmc ⟨by kernel_rfl, fmc ⟨by kernel_rfl, (fun _ h => by cases h)⟩⟩, mixed⟩
noncomputable def cx_guest_Guest_Open (W0 : World) (S : Nat → Prop) (bs : List Nat := []) : Cx := ⟨Tryz.prog, W0, S, 29, [(3, ti3), (5, ti5), (9, ti9), (24, ti24), (27, ti27), (98, ti98)], [27, 28, 30], bs, none, []⟩
abbrev n_guest_Guest_Open : FuncId := 12
theorem b_guest_Guest_Open : Tryz.prog.funcs[n_guest_Guest_Open]? = some Tryz.f12 := Tryz.func12
theorem good_guest_Guest_Open (W0 : World) (S : Nat → Prop) (bs : List Nat := []) : Good (cx_guest_Guest_Open W0 S bs) := ⟨fmc ⟨ok3, fmc ⟨ok5, fmc ⟨ok9, fmc ⟨ok24, fmc ⟨ok27, fmc ⟨ok98, (fun _ h => by cases h)⟩⟩⟩⟩⟩⟩, fmc ⟨by kernel_rfl, fmc ⟨by kernel_rfl, fmc ⟨by kernel_rfl, (fun _ h => by cases h)⟩⟩⟩, mixed⟩
noncomputable def cx_guest_Guest_Send (W0 : World) (S : Nat → Prop) (bs : List Nat := []) : Cx := ⟨Tryz.prog, W0, S, 19, [(3, ti3), (5, ti5), (9, ti9), (22, ti22), (24, ti24), (27, ti27), (98, ti98)], [27, 28], bs, none, []⟩
abbrev n_guest_Guest_Send : FuncId := 13
theorem b_guest_Guest_Send : Tryz.prog.funcs[n_guest_Guest_Send]? = some Tryz.f13 := Tryz.func13
theorem good_guest_Guest_Send (W0 : World) (S : Nat → Prop) (bs : List Nat := []) : Good (cx_guest_Guest_Send W0 S bs) := ⟨fmc ⟨ok3, fmc ⟨ok5, fmc ⟨ok9, fmc ⟨ok22, fmc ⟨ok24, fmc ⟨ok27, fmc ⟨ok98, (fun _ h => by cases h)⟩⟩⟩⟩⟩⟩⟩, fmc ⟨by kernel_rfl, fmc ⟨by kernel_rfl, (fun _ h => by cases h)⟩⟩, mixed⟩
noncomputable def cx_guest_Guest_Bye (W0 : World) (S : Nat → Prop) (bs : List Nat := []) : Cx := ⟨Tryz.prog, W0, S, 15, [(3, ti3), (5, ti5), (9, ti9), (24, ti24), (27, ti27), (98, ti98)], [27, 28], bs, none, []⟩
abbrev n_guest_Guest_Bye : FuncId := 14
theorem b_guest_Guest_Bye : Tryz.prog.funcs[n_guest_Guest_Bye]? = some Tryz.f14 := Tryz.func14
theorem good_guest_Guest_Bye (W0 : World) (S : Nat → Prop) (bs : List Nat := []) : Good (cx_guest_Guest_Bye W0 S bs) := ⟨fmc ⟨ok3, fmc ⟨ok5, fmc ⟨ok9, fmc ⟨ok24, fmc ⟨ok27, fmc ⟨ok98, (fun _ h => by cases h)⟩⟩⟩⟩⟩⟩, fmc ⟨by kernel_rfl, fmc ⟨by kernel_rfl, (fun _ h => by cases h)⟩⟩, mixed⟩
noncomputable def cx_guest_Guest_Hear (W0 : World) (S : Nat → Prop) (bs : List Nat := []) : Cx := ⟨Tryz.prog, W0, S, 37, [(3, ti3), (4, ti4), (5, ti5), (9, ti9), (22, ti22), (24, ti24), (27, ti27), (36, ti36), (45, ti45), (50, ti50), (61, ti61), (63, ti63), (70, ti70), (85, ti85)], [33, 34], bs, none, []⟩
abbrev n_guest_Guest_Hear : FuncId := 15
theorem b_guest_Guest_Hear : Tryz.prog.funcs[n_guest_Guest_Hear]? = some Tryz.f15 := Tryz.func15
theorem good_guest_Guest_Hear (W0 : World) (S : Nat → Prop) (bs : List Nat := []) : Good (cx_guest_Guest_Hear W0 S bs) := ⟨fmc ⟨ok3, fmc ⟨ok4, fmc ⟨ok5, fmc ⟨ok9, fmc ⟨ok22, fmc ⟨ok24, fmc ⟨ok27, fmc ⟨ok36, fmc ⟨ok45, fmc ⟨ok50, fmc ⟨ok61, fmc ⟨ok63, fmc ⟨ok70, fmc ⟨ok85, (fun _ h => by cases h)⟩⟩⟩⟩⟩⟩⟩⟩⟩⟩⟩⟩⟩⟩, fmc ⟨by kernel_rfl, fmc ⟨by kernel_rfl, (fun _ h => by cases h)⟩⟩, mixed⟩
noncomputable def cx_guest_Make (W0 : World) (S : Nat → Prop) (bs : List Nat := []) : Cx := ⟨Tryz.prog, W0, S, 42, [(3, ti3), (4, ti4), (5, ti5), (9, ti9), (22, ti22), (27, ti27), (36, ti36), (45, ti45), (50, ti50), (61, ti61), (63, ti63), (85, ti85)], [35, 36, 37], bs, none, []⟩
abbrev n_guest_Make : FuncId := 16
theorem b_guest_Make : Tryz.prog.funcs[n_guest_Make]? = some Tryz.f16 := Tryz.func16
theorem good_guest_Make (W0 : World) (S : Nat → Prop) (bs : List Nat := []) : Good (cx_guest_Make W0 S bs) := ⟨fmc ⟨ok3, fmc ⟨ok4, fmc ⟨ok5, fmc ⟨ok9, fmc ⟨ok22, fmc ⟨ok27, fmc ⟨ok36, fmc ⟨ok45, fmc ⟨ok50, fmc ⟨ok61, fmc ⟨ok63, fmc ⟨ok85, (fun _ h => by cases h)⟩⟩⟩⟩⟩⟩⟩⟩⟩⟩⟩⟩, fmc ⟨by kernel_rfl, fmc ⟨by kernel_rfl, fmc ⟨by kernel_rfl, (fun _ h => by cases h)⟩⟩⟩, mixed⟩
noncomputable def cx_ostiarylaw26_ann (W0 : World) (S : Nat → Prop) (bs : List Nat := []) : Cx := ⟨Tryz.prog, W0, S, 2, [(9, ti9), (36, ti36)], [], bs, none, []⟩
abbrev n_ostiarylaw26_ann : FuncId := 17
theorem b_ostiarylaw26_ann : Tryz.prog.funcs[n_ostiarylaw26_ann]? = some Tryz.f17 := Tryz.func17
theorem good_ostiarylaw26_ann (W0 : World) (S : Nat → Prop) (bs : List Nat := []) : Good (cx_ostiarylaw26_ann W0 S bs) := ⟨fmc ⟨ok9, fmc ⟨ok36, (fun _ h => by cases h)⟩⟩, (fun _ h => by cases h), mixed⟩
noncomputable def cx_guest_Guest_SetTicket (W0 : World) (S : Nat → Prop) (bs : List Nat := []) : Cx := ⟨Tryz.prog, W0, S, 10, [(3, ti3), (4, ti4), (5, ti5), (9, ti9), (22, ti22), (24, ti24), (27, ti27), (36, ti36), (45, ti45), (50, ti50), (61, ti61), (63, ti63), (85, ti85)], [], bs, none, []⟩
abbrev n_guest_Guest_SetTicket : FuncId := 18
theorem b_guest_Guest_SetTicket : Tryz.prog.funcs[n_guest_Guest_SetTicket]? = some Tryz.f18 := Tryz.func18
theorem good_guest_Guest_SetTicket (W0 : World) (S : Nat → Prop) (bs : List Nat := []) : Good (cx_guest_Guest_SetTicket W0 S bs) := ⟨fmc ⟨ok3, fmc ⟨ok4, fmc ⟨ok5, fmc ⟨ok9, fmc ⟨ok22, fmc ⟨ok24, fmc ⟨ok27, fmc ⟨ok36, fmc ⟨ok45, fmc ⟨ok50, fmc ⟨ok61, fmc ⟨ok63, fmc ⟨ok85, (fun _ h => by cases h)⟩⟩⟩⟩⟩⟩⟩⟩⟩⟩⟩⟩⟩, (fun _ h => by cases h), mixed⟩
noncomputable def cx_guest_Guest_State (W0 : World) (S : Nat → Prop) (bs : List Nat := []) : Cx := ⟨Tryz.prog, W0, S, 9, [(3, ti3), (4, ti4), (5, ti5), (9, ti9), (22, ti22), (24, ti24), (27, ti27), (36, ti36), (45, ti45), (50, ti50), (61, ti61), (63, ti63), (85, ti85)], [], bs, none, []⟩
abbrev n_guest_Guest_State : FuncId := 19
theorem b_guest_Guest_State : Tryz.prog.funcs[n_guest_Guest_State]? = some Tryz.f19 := Tryz.func19
theorem good_guest_Guest_State (W0 : World) (S : Nat → Prop) (bs : List Nat := []) : Good (cx_guest_Guest_State W0 S bs) := ⟨fmc ⟨ok3, fmc ⟨ok4, fmc ⟨ok5, fmc ⟨ok9, fmc ⟨ok22, fmc ⟨ok24, fmc ⟨ok27, fmc ⟨ok36, fmc ⟨ok45, fmc ⟨ok50, fmc ⟨ok61, fmc ⟨ok63, fmc ⟨ok85, (fun _ h => by cases h)⟩⟩⟩⟩⟩⟩⟩⟩⟩⟩⟩⟩⟩, (fun _ h => by cases h), mixed⟩
noncomputable def cx_guest_Guest_Ticket (W0 : World) (S : Nat → Prop) (bs : List Nat := []) : Cx := ⟨Tryz.prog, W0, S, 9, [(3, ti3), (4, ti4), (5, ti5), (9, ti9), (22, ti22), (24, ti24), (27, ti27), (36, ti36), (45, ti45), (50, ti50), (61, ti61), (63, ti63), (85, ti85)], [], bs, none, []⟩
abbrev n_guest_Guest_Ticket : FuncId := 20
theorem b_guest_Guest_Ticket : Tryz.prog.funcs[n_guest_Guest_Ticket]? = some Tryz.f20 := Tryz.func20
theorem good_guest_Guest_Ticket (W0 : World) (S : Nat → Prop) (bs : List Nat := []) : Good (cx_guest_Guest_Ticket W0 S bs) := ⟨fmc ⟨ok3, fmc ⟨ok4, fmc ⟨ok5, fmc ⟨ok9, fmc ⟨ok22, fmc ⟨ok24, fmc ⟨ok27, fmc ⟨ok36, fmc ⟨ok45, fmc ⟨ok50, fmc ⟨ok61, fmc ⟨ok63, fmc ⟨ok85, (fun _ h => by cases h)⟩⟩⟩⟩⟩⟩⟩⟩⟩⟩⟩⟩⟩, (fun _ h => by cases h), mixed⟩
noncomputable def cx_guest_Guest_Got (W0 : World) (S : Nat → Prop) (bs : List Nat := []) : Cx := ⟨Tryz.prog, W0, S, 10, [(3, ti3), (4, ti4), (5, ti5), (9, ti9), (22, ti22), (24, ti24), (27, ti27), (36, ti36), (45, ti45), (50, ti50), (61, ti61), (63, ti63), (85, ti85)], [38], bs, none, []⟩
abbrev n_guest_Guest_Got : FuncId := 21
theorem b_guest_Guest_Got : Tryz.prog.funcs[n_guest_Guest_Got]? = some Tryz.f21 := Tryz.func21
theorem good_guest_Guest_Got (W0 : World) (S : Nat → Prop) (bs : List Nat := []) : Good (cx_guest_Guest_Got W0 S bs) := ⟨fmc ⟨ok3, fmc ⟨ok4, fmc ⟨ok5, fmc ⟨ok9, fmc ⟨ok22, fmc ⟨ok24, fmc ⟨ok27, fmc ⟨ok36, fmc ⟨ok45, fmc ⟨ok50, fmc ⟨ok61, fmc ⟨ok63, fmc ⟨ok85, (fun _ h => by cases h)⟩⟩⟩⟩⟩⟩⟩⟩⟩⟩⟩⟩⟩, fmc ⟨by kernel_rfl, (fun _ h => by cases h)⟩, mixed⟩
noncomputable def cx_guest_Guest_Fault (W0 : World) (S : Nat → Prop) (bs : List Nat := []) : Cx := ⟨Tryz.prog, W0, S, 9, [(3, ti3), (4, ti4), (5, ti5), (9, ti9), (22, ti22), (24, ti24), (27, ti27), (36, ti36), (45, ti45), (50, ti50), (61, ti61), (63, ti63), (85, ti85)], [], bs, none, []⟩
abbrev n_guest_Guest_Fault : FuncId := 22
theorem b_guest_Guest_Fault : Tryz.prog.funcs[n_guest_Guest_Fault]? = some Tryz.f22 := Tryz.func22
theorem good_guest_Guest_Fault (W0 : World) (S : Nat → Prop) (bs : List Nat := []) : Good (cx_guest_Guest_Fault W0 S bs) := ⟨fmc ⟨ok3, fmc ⟨ok4, fmc ⟨ok5, fmc ⟨ok9, fmc ⟨ok22, fmc ⟨ok24, fmc ⟨ok27, fmc ⟨ok36, fmc ⟨ok45, fmc ⟨ok50, fmc ⟨ok61, fmc ⟨ok63, fmc ⟨ok85, (fun _ h => by cases h)⟩⟩⟩⟩⟩⟩⟩⟩⟩⟩⟩⟩⟩, (fun _ h => by cases h), mixed⟩
noncomputable def cx_box_New (W0 : World) (S : Nat → Prop) (bs : List Nat := []) : Cx := ⟨Tryz.prog, W0, S, 7, [(3, ti3), (4, ti4), (5, ti5), (9, ti9), (22, ti22), (76, ti76), (77, ti77), (79, ti79), (98, ti98), (260, ti260)], [], bs, none, []⟩
abbrev n_box_New : FuncId := 23
theorem b_box_New : Tryz.prog.funcs[n_box_New]? = some Tryz.f23 := Tryz.func23
theorem good_box_New (W0 : World) (S : Nat → Prop) (bs : List Nat := []) : Good (cx_box_New W0 S bs) := ⟨fmc ⟨ok3, fmc ⟨ok4, fmc ⟨ok5, fmc ⟨ok9, fmc ⟨ok22, fmc ⟨ok76, fmc ⟨ok77, fmc ⟨ok79, fmc ⟨ok98, fmc ⟨ok260, (fun _ h => by cases h)⟩⟩⟩⟩⟩⟩⟩⟩⟩⟩, (fun _ h => by cases h), mixed⟩
noncomputable def cx_guest_Guest_in (W0 : World) (S : Nat → Prop) (bs : List Nat := []) : Cx := ⟨Tryz.prog, W0, S, 22, [(3, ti3), (4, ti4), (5, ti5), (9, ti9), (22, ti22), (24, ti24), (27, ti27), (36, ti36), (45, ti45), (50, ti50), (61, ti61), (63, ti63), (85, ti85), (98, ti98)], [], bs, none, []⟩
abbrev n_guest_Guest_in : FuncId := 27
theorem b_guest_Guest_in : Tryz.prog.funcs[n_guest_Guest_in]? = some Tryz.f27 := Tryz.func27
theorem good_guest_Guest_in (W0 : World) (S : Nat → Prop) (bs : List Nat := []) : Good (cx_guest_Guest_in W0 S bs) := ⟨fmc ⟨ok3, fmc ⟨ok4, fmc ⟨ok5, fmc ⟨ok9, fmc ⟨ok22, fmc ⟨ok24, fmc ⟨ok27, fmc ⟨ok36, fmc ⟨ok45, fmc ⟨ok50, fmc ⟨ok61, fmc ⟨ok63, fmc ⟨ok85, fmc ⟨ok98, (fun _ h => by cases h)⟩⟩⟩⟩⟩⟩⟩⟩⟩⟩⟩⟩⟩⟩, (fun _ h => by cases h), mixed⟩
noncomputable def cx_guest_Guest_send (W0 : World) (S : Nat → Prop) (bs : List Nat := []) : Cx := ⟨Tryz.prog, W0, S, 28, [(3, ti3), (4, ti4), (5, ti5), (9, ti9), (22, ti22), (27, ti27), (36, ti36), (45, ti45), (50, ti50), (61, ti61), (63, ti63), (70, ti70), (85, ti85)], [50], bs, none, []⟩
abbrev n_guest_Guest_send : FuncId := 28
theorem b_guest_Guest_send : Tryz.prog.funcs[n_guest_Guest_send]? = some Tryz.f28 := Tryz.func28
theorem good_guest_Guest_send (W0 : World) (S : Nat → Prop) (bs : List Nat := []) : Good (cx_guest_Guest_send W0 S bs) := ⟨fmc ⟨ok3, fmc ⟨ok4, fmc ⟨ok5, fmc ⟨ok9, fmc ⟨ok22, fmc ⟨ok27, fmc ⟨ok36, fmc ⟨ok45, fmc ⟨ok50, fmc ⟨ok61, fmc ⟨ok63, fmc ⟨ok70, fmc ⟨ok85, (fun _ h => by cases h)⟩⟩⟩⟩⟩⟩⟩⟩⟩⟩⟩⟩⟩, fmc ⟨by kernel_rfl, (fun _ h => by cases h)⟩, mixed⟩
noncomputable def cx_scram_First_Text (W0 : World) (S : Nat → Prop) (bs : List Nat := []) : Cx := ⟨Tryz.prog, W0, S, 14, [(4, ti4), (9, ti9), (50, ti50), (61, ti61), (85, ti85)], [51, 52, 53, 54], bs, none, []⟩
abbrev n_scram_First_Text : FuncId := 29
theorem b_scram_First_Text : Tryz.prog.funcs[n_scram_First_Text]? = some Tryz.f29 := Tryz.func29
def p_scram_First_Text_1 : Plan := .take 0 (.take 2 (.take 5 (.exec 1 (.exec 3 (.take 4 (.exec 6 (.exec 7 (.take 8 (.take 9 (.take 10 (.take 11 (.done))))))))))))
theorem good_scram_First_Text (W0 : World) (S : Nat → Prop) (bs : List Nat := []) : Good (cx_scram_First_Text W0 S bs) := ⟨fmc ⟨ok4, fmc ⟨ok9, fmc ⟨ok50, fmc ⟨ok61, fmc ⟨ok85, (fun _ h => by cases h)⟩⟩⟩⟩⟩, fmc ⟨by kernel_rfl, fmc ⟨by kernel_rfl, fmc ⟨by kernel_rfl, fmc ⟨by kernel_rfl, (fun _ h => by cases h)⟩⟩⟩⟩, mixed⟩
noncomputable def cx_scram_Nonce (W0 : World) (S : Nat → Prop) (bs : List Nat := []) : Cx := ⟨Tryz.prog, W0, S, 33, [(3, ti3), (5, ti5), (9, ti9)], [], bs, none, []⟩
abbrev n_scram_Nonce : FuncId := 31
theorem b_scram_Nonce : Tryz.prog.funcs[n_scram_Nonce]? = some Tryz.f31 := Tryz.func31
theorem good_scram_Nonce (W0 : World) (S : Nat → Prop) (bs : List Nat := []) : Good (cx_scram_Nonce W0 S bs) := ⟨fmc ⟨ok3, fmc ⟨ok5, fmc ⟨ok9, (fun _ h => by cases h)⟩⟩⟩, (fun _ h => by cases h), mixed⟩
noncomputable def cx_name_Plain (W0 : World) (S : Nat → Prop) (bs : List Nat := []) : Cx := ⟨Tryz.prog, W0, S, 37, [(3, ti3), (5, ti5), (9, ti9), (22, ti22)], [], bs, none, []⟩
abbrev n_name_Plain : FuncId := 35
theorem b_name_Plain : Tryz.prog.funcs[n_name_Plain]? = some Tryz.f35 := Tryz.func35
theorem good_name_Plain (W0 : World) (S : Nat → Prop) (bs : List Nat := []) : Good (cx_name_Plain W0 S bs) := ⟨fmc ⟨ok3, fmc ⟨ok5, fmc ⟨ok9, fmc ⟨ok22, (fun _ h => by cases h)⟩⟩⟩⟩, (fun _ h => by cases h), mixed⟩
noncomputable def cx_name_Name (W0 : World) (S : Nat → Prop) (bs : List Nat := []) : Cx := ⟨Tryz.prog, W0, S, 8, [(3, ti3), (9, ti9)], [64], bs, none, []⟩
abbrev n_name_Name : FuncId := 36
theorem b_name_Name : Tryz.prog.funcs[n_name_Name]? = some Tryz.f36 := Tryz.func36
theorem good_name_Name (W0 : World) (S : Nat → Prop) (bs : List Nat := []) : Good (cx_name_Name W0 S bs) := ⟨fmc ⟨ok3, fmc ⟨ok9, (fun _ h => by cases h)⟩⟩, fmc ⟨by kernel_rfl, (fun _ h => by cases h)⟩, mixed⟩
noncomputable def cx_name_Password (W0 : World) (S : Nat → Prop) (bs : List Nat := []) : Cx := ⟨Tryz.prog, W0, S, 8, [(3, ti3), (9, ti9)], [64], bs, none, []⟩
abbrev n_name_Password : FuncId := 37
theorem b_name_Password : Tryz.prog.funcs[n_name_Password]? = some Tryz.f37 := Tryz.func37
theorem good_name_Password (W0 : World) (S : Nat → Prop) (bs : List Nat := []) : Good (cx_name_Password W0 S bs) := ⟨fmc ⟨ok3, fmc ⟨ok9, (fun _ h => by cases h)⟩⟩, fmc ⟨by kernel_rfl, (fun _ h => by cases h)⟩, mixed⟩
noncomputable def cx_bytes_Clone (W0 : World) (S : Nat → Prop) (bs : List Nat := []) : Cx := ⟨Tryz.prog, W0, S, 8, [(5, ti5), (22, ti22)], [], bs, none, []⟩
abbrev n_bytes_Clone : FuncId := 38
theorem b_bytes_Clone : Tryz.prog.funcs[n_bytes_Clone]? = some Tryz.f38 := Tryz.func38
theorem good_bytes_Clone (W0 : World) (S : Nat → Prop) (bs : List Nat := []) : Good (cx_bytes_Clone W0 S bs) := ⟨fmc ⟨ok5, fmc ⟨ok22, (fun _ h => by cases h)⟩⟩, (fun _ h => by cases h), mixed⟩
noncomputable def cx_frame_Pack (W0 : World) (S : Nat → Prop) (bs : List Nat := []) : Cx := ⟨Tryz.prog, W0, S, 27, [(3, ti3), (5, ti5), (22, ti22), (70, ti70)], [60], bs, none, []⟩
abbrev n_frame_Pack : FuncId := 50
theorem b_frame_Pack : Tryz.prog.funcs[n_frame_Pack]? = some Tryz.f50 := Tryz.func50
theorem good_frame_Pack (W0 : World) (S : Nat → Prop) (bs : List Nat := []) : Good (cx_frame_Pack W0 S bs) := ⟨fmc ⟨ok3, fmc ⟨ok5, fmc ⟨ok22, fmc ⟨ok70, (fun _ h => by cases h)⟩⟩⟩⟩, fmc ⟨by kernel_rfl, (fun _ h => by cases h)⟩, mixed⟩
noncomputable def cx_scram_sized (W0 : World) (S : Nat → Prop) (bs : List Nat := []) : Cx := ⟨Tryz.prog, W0, S, 14, [(3, ti3), (9, ti9)], [], bs, none, []⟩
abbrev n_scram_sized : FuncId := 51
theorem b_scram_sized : Tryz.prog.funcs[n_scram_sized]? = some Tryz.f51 := Tryz.func51
theorem good_scram_sized (W0 : World) (S : Nat → Prop) (bs : List Nat := []) : Good (cx_scram_sized W0 S bs) := ⟨fmc ⟨ok3, fmc ⟨ok9, (fun _ h => by cases h)⟩⟩, (fun _ h => by cases h), mixed⟩
noncomputable def cx_scram_First_Head (W0 : World) (S : Nat → Prop) (bs : List Nat := []) : Cx := ⟨Tryz.prog, W0, S, 17, [(9, ti9), (50, ti50), (61, ti61), (85, ti85)], [83], bs, none, []⟩
abbrev n_scram_First_Head : FuncId := 52
theorem b_scram_First_Head : Tryz.prog.funcs[n_scram_First_Head]? = some Tryz.f52 := Tryz.func52
theorem good_scram_First_Head (W0 : World) (S : Nat → Prop) (bs : List Nat := []) : Good (cx_scram_First_Head W0 S bs) := ⟨fmc ⟨ok9, fmc ⟨ok50, fmc ⟨ok61, fmc ⟨ok85, (fun _ h => by cases h)⟩⟩⟩⟩, fmc ⟨by kernel_rfl, (fun _ h => by cases h)⟩, mixed⟩
noncomputable def cx_scram_First_bare (W0 : World) (S : Nat → Prop) (bs : List Nat := []) : Cx := ⟨Tryz.prog, W0, S, 15, [(9, ti9), (50, ti50), (61, ti61), (85, ti85)], [83, 84], bs, none, []⟩
abbrev n_scram_First_bare : FuncId := 53
theorem b_scram_First_bare : Tryz.prog.funcs[n_scram_First_bare]? = some Tryz.f53 := Tryz.func53
def p_scram_First_bare_1 : Plan := .take 0 (.take 1 (.take 5 (.take 6 (.take 8 (.take 9 (.exec 2 (.take 3 (.take 4 (.take 7 (.exec 10 (.take 11 (.take 12 (.done)))))))))))))
theorem good_scram_First_bare (W0 : World) (S : Nat → Prop) (bs : List Nat := []) : Good (cx_scram_First_bare W0 S bs) := ⟨fmc ⟨ok9, fmc ⟨ok50, fmc ⟨ok61, fmc ⟨ok85, (fun _ h => by cases h)⟩⟩⟩⟩, fmc ⟨by kernel_rfl, fmc ⟨by kernel_rfl, (fun _ h => by cases h)⟩⟩, mixed⟩
noncomputable def cx_scram_First_right (W0 : World) (S : Nat → Prop) (bs : List Nat := []) : Cx := ⟨Tryz.prog, W0, S, 42, [(9, ti9), (50, ti50), (61, ti61), (85, ti85)], [31, 83, 85, 86], bs, none, []⟩
abbrev n_scram_First_right : FuncId := 54
theorem b_scram_First_right : Tryz.prog.funcs[n_scram_First_right]? = some Tryz.f54 := Tryz.func54
theorem good_scram_First_right (W0 : World) (S : Nat → Prop) (bs : List Nat := []) : Good (cx_scram_First_right W0 S bs) := ⟨fmc ⟨ok9, fmc ⟨ok50, fmc ⟨ok61, fmc ⟨ok85, (fun _ h => by cases h)⟩⟩⟩⟩, fmc ⟨by kernel_rfl, fmc ⟨by kernel_rfl, fmc ⟨by kernel_rfl, fmc ⟨by kernel_rfl, (fun _ h => by cases h)⟩⟩⟩⟩, mixed⟩
noncomputable def cx_frame_kind (W0 : World) (S : Nat → Prop) (bs : List Nat := []) : Cx := ⟨Tryz.prog, W0, S, 9, [(5, ti5)], [], bs, none, []⟩
abbrev n_frame_kind : FuncId := 60
theorem b_frame_kind : Tryz.prog.funcs[n_frame_kind]? = some Tryz.f60 := Tryz.func60
theorem good_frame_kind (W0 : World) (S : Nat → Prop) (bs : List Nat := []) : Good (cx_frame_kind W0 S bs) := ⟨fmc ⟨ok5, (fun _ h => by cases h)⟩, (fun _ h => by cases h), mixed⟩
noncomputable def cx_name_sized (W0 : World) (S : Nat → Prop) (bs : List Nat := []) : Cx := ⟨Tryz.prog, W0, S, 26, [(3, ti3), (9, ti9), (27, ti27)], [111], bs, none, []⟩
abbrev n_name_sized : FuncId := 64
theorem b_name_sized : Tryz.prog.funcs[n_name_sized]? = some Tryz.f64 := Tryz.func64
theorem good_name_sized (W0 : World) (S : Nat → Prop) (bs : List Nat := []) : Good (cx_name_sized W0 S bs) := ⟨fmc ⟨ok3, fmc ⟨ok9, fmc ⟨ok27, (fun _ h => by cases h)⟩⟩⟩, fmc ⟨by kernel_rfl, (fun _ h => by cases h)⟩, mixed⟩
noncomputable def cx_name_Escape (W0 : World) (S : Nat → Prop) (bs : List Nat := []) : Cx := ⟨Tryz.prog, W0, S, 25, [(3, ti3), (5, ti5), (9, ti9), (22, ti22), (170, ti170), (172, ti172)], [127, 128, 129], bs, none, []⟩
abbrev n_name_Escape : FuncId := 83
theorem b_name_Escape : Tryz.prog.funcs[n_name_Escape]? = some Tryz.f83 := Tryz.func83
theorem good_name_Escape (W0 : World) (S : Nat → Prop) (bs : List Nat := []) : Good (cx_name_Escape W0 S bs) := ⟨fmc ⟨ok3, fmc ⟨ok5, fmc ⟨ok9, fmc ⟨ok22, fmc ⟨ok170, fmc ⟨ok172, (fun _ h => by cases h)⟩⟩⟩⟩⟩⟩, fmc ⟨by kernel_rfl, fmc ⟨by kernel_rfl, fmc ⟨by kernel_rfl, (fun _ h => by cases h)⟩⟩⟩, mixed⟩
noncomputable def cx_scram_extensions (W0 : World) (S : Nat → Prop) (bs : List Nat := []) : Cx := ⟨Tryz.prog, W0, S, 22, [(3, ti3), (5, ti5), (9, ti9), (22, ti22), (50, ti50), (85, ti85), (170, ti170), (172, ti172)], [127, 129], bs, none, []⟩
abbrev n_scram_extensions : FuncId := 84
theorem b_scram_extensions : Tryz.prog.funcs[n_scram_extensions]? = some Tryz.f84 := Tryz.func84
theorem good_scram_extensions (W0 : World) (S : Nat → Prop) (bs : List Nat := []) : Good (cx_scram_extensions W0 S bs) := ⟨fmc ⟨ok3, fmc ⟨ok5, fmc ⟨ok9, fmc ⟨ok22, fmc ⟨ok50, fmc ⟨ok85, fmc ⟨ok170, fmc ⟨ok172, (fun _ h => by cases h)⟩⟩⟩⟩⟩⟩⟩⟩, fmc ⟨by kernel_rfl, fmc ⟨by kernel_rfl, (fun _ h => by cases h)⟩⟩, mixed⟩
noncomputable def cx_scram_value (W0 : World) (S : Nat → Prop) (bs : List Nat := []) : Cx := ⟨Tryz.prog, W0, S, 27, [(3, ti3), (5, ti5), (9, ti9)], [130], bs, none, []⟩
abbrev n_scram_value : FuncId := 85
theorem b_scram_value : Tryz.prog.funcs[n_scram_value]? = some Tryz.f85 := Tryz.func85
theorem good_scram_value (W0 : World) (S : Nat → Prop) (bs : List Nat := []) : Good (cx_scram_value W0 S bs) := ⟨fmc ⟨ok3, fmc ⟨ok5, fmc ⟨ok9, (fun _ h => by cases h)⟩⟩⟩, fmc ⟨by kernel_rfl, (fun _ h => by cases h)⟩, mixed⟩
noncomputable def cx_scram_extended (W0 : World) (S : Nat → Prop) (bs : List Nat := []) : Cx := ⟨Tryz.prog, W0, S, 42, [(3, ti3), (5, ti5), (9, ti9), (50, ti50), (85, ti85)], [85, 131], bs, none, []⟩
abbrev n_scram_extended : FuncId := 86
theorem b_scram_extended : Tryz.prog.funcs[n_scram_extended]? = some Tryz.f86 := Tryz.func86
theorem good_scram_extended (W0 : World) (S : Nat → Prop) (bs : List Nat := []) : Good (cx_scram_extended W0 S bs) := ⟨fmc ⟨ok3, fmc ⟨ok5, fmc ⟨ok9, fmc ⟨ok50, fmc ⟨ok85, (fun _ h => by cases h)⟩⟩⟩⟩⟩, fmc ⟨by kernel_rfl, fmc ⟨by kernel_rfl, (fun _ h => by cases h)⟩⟩, mixed⟩
noncomputable def cx_name_Prepare (W0 : World) (S : Nat → Prop) (bs : List Nat := []) : Cx := ⟨Tryz.prog, W0, S, 25, [(5, ti5), (9, ti9), (21, ti21), (22, ti22), (27, ti27), (214, ti214), (216, ti216), (217, ti217)], [130, 174, 175, 176], bs, none, []⟩
abbrev n_name_Prepare : FuncId := 111
theorem b_name_Prepare : Tryz.prog.funcs[n_name_Prepare]? = some Tryz.f111 := Tryz.func111
theorem good_name_Prepare (W0 : World) (S : Nat → Prop) (bs : List Nat := []) : Good (cx_name_Prepare W0 S bs) := ⟨fmc ⟨ok5, fmc ⟨ok9, fmc ⟨ok21, fmc ⟨ok22, fmc ⟨ok27, fmc ⟨ok214, fmc ⟨ok216, fmc ⟨ok217, (fun _ h => by cases h)⟩⟩⟩⟩⟩⟩⟩⟩, fmc ⟨by kernel_rfl, fmc ⟨by kernel_rfl, fmc ⟨by kernel_rfl, fmc ⟨by kernel_rfl, (fun _ h => by cases h)⟩⟩⟩⟩, mixed⟩
noncomputable def cx_strings_Builder_WriteString (W0 : World) (S : Nat → Prop) (bs : List Nat := []) : Cx := ⟨Tryz.prog, W0, S, 19, [(5, ti5), (9, ti9), (22, ti22), (170, ti170), (172, ti172)], [182], bs, none, []⟩
abbrev n_strings_Builder_WriteString : FuncId := 127
theorem b_strings_Builder_WriteString : Tryz.prog.funcs[n_strings_Builder_WriteString]? = some Tryz.f127 := Tryz.func127
theorem good_strings_Builder_WriteString (W0 : World) (S : Nat → Prop) (bs : List Nat := []) : Good (cx_strings_Builder_WriteString W0 S bs) := ⟨fmc ⟨ok5, fmc ⟨ok9, fmc ⟨ok22, fmc ⟨ok170, fmc ⟨ok172, (fun _ h => by cases h)⟩⟩⟩⟩⟩, fmc ⟨by kernel_rfl, (fun _ h => by cases h)⟩, mixed⟩
noncomputable def cx_strings_Builder_WriteByte (W0 : World) (S : Nat → Prop) (bs : List Nat := []) : Cx := ⟨Tryz.prog, W0, S, 17, [(5, ti5), (22, ti22), (170, ti170), (172, ti172)], [182], bs, none, []⟩
abbrev n_strings_Builder_WriteByte : FuncId := 128
theorem b_strings_Builder_WriteByte : Tryz.prog.funcs[n_strings_Builder_WriteByte]? = some Tryz.f128 := Tryz.func128
theorem good_strings_Builder_WriteByte (W0 : World) (S : Nat → Prop) (bs : List Nat := []) : Good (cx_strings_Builder_WriteByte W0 S bs) := ⟨fmc ⟨ok5, fmc ⟨ok22, fmc ⟨ok170, fmc ⟨ok172, (fun _ h => by cases h)⟩⟩⟩⟩, fmc ⟨by kernel_rfl, (fun _ h => by cases h)⟩, mixed⟩
noncomputable def cx_strings_Builder_String (W0 : World) (S : Nat → Prop) (bs : List Nat := []) : Cx := ⟨Tryz.prog, W0, S, 14, [(3, ti3), (5, ti5), (22, ti22), (170, ti170), (172, ti172), (223, ti223)], [], bs, none, []⟩
abbrev n_strings_Builder_String : FuncId := 129
theorem b_strings_Builder_String : Tryz.prog.funcs[n_strings_Builder_String]? = some Tryz.f129 := Tryz.func129
def p_strings_Builder_String_1 : Plan := .take 0 (.take 1 (.take 2 (.take 3 (.take 5 (.take 6 (.take 7 (.take 8 (.take 9 (.exec 4 (.exec 10 (.take 11 (.done))))))))))))
theorem good_strings_Builder_String (W0 : World) (S : Nat → Prop) (bs : List Nat := []) : Good (cx_strings_Builder_String W0 S bs) := ⟨fmc ⟨ok3, fmc ⟨ok5, fmc ⟨ok22, fmc ⟨ok170, fmc ⟨ok172, fmc ⟨ok223, (fun _ h => by cases h)⟩⟩⟩⟩⟩⟩, (fun _ h => by cases h), mixed⟩
noncomputable def cx_name_Valid (W0 : World) (S : Nat → Prop) (bs : List Nat := []) : Cx := ⟨Tryz.prog, W0, S, 11, [(4, ti4), (9, ti9), (21, ti21)], [183], bs, none, []⟩
abbrev n_name_Valid : FuncId := 130
theorem b_name_Valid : Tryz.prog.funcs[n_name_Valid]? = some Tryz.f130 := Tryz.func130
theorem good_name_Valid (W0 : World) (S : Nat → Prop) (bs : List Nat := []) : Good (cx_name_Valid W0 S bs) := ⟨fmc ⟨ok4, fmc ⟨ok9, fmc ⟨ok21, (fun _ h => by cases h)⟩⟩⟩, fmc ⟨by kernel_rfl, (fun _ h => by cases h)⟩, mixed⟩
noncomputable def cx_name_prepared (W0 : World) (S : Nat → Prop) (bs : List Nat := []) : Cx := ⟨Tryz.prog, W0, S, 4, [(9, ti9)], [229], bs, none, []⟩
abbrev n_name_prepared : FuncId := 174
theorem b_name_prepared : Tryz.prog.funcs[n_name_prepared]? = some Tryz.f174 := Tryz.func174
theorem good_name_prepared (W0 : World) (S : Nat → Prop) (bs : List Nat := []) : Good (cx_name_prepared W0 S bs) := ⟨fmc ⟨ok9, (fun _ h => by cases h)⟩, fmc ⟨by kernel_rfl, (fun _ h => by cases h)⟩, mixed⟩
noncomputable def cx_name_within (W0 : World) (S : Nat → Prop) (bs : List Nat := []) : Cx := ⟨Tryz.prog, W0, S, 24, [(3, ti3), (21, ti21), (214, ti214), (216, ti216)], [], bs, none, []⟩
abbrev n_name_within : FuncId := 175
theorem b_name_within : Tryz.prog.funcs[n_name_within]? = some Tryz.f175 := Tryz.func175
theorem good_name_within (W0 : World) (S : Nat → Prop) (bs : List Nat := []) : Good (cx_name_within W0 S bs) := ⟨fmc ⟨ok3, fmc ⟨ok21, fmc ⟨ok214, fmc ⟨ok216, (fun _ h => by cases h)⟩⟩⟩⟩, (fun _ h => by cases h), mixed⟩
noncomputable def cx_name_Append (W0 : World) (S : Nat → Prop) (bs : List Nat := []) : Cx := ⟨Tryz.prog, W0, S, 60, [(3, ti3), (5, ti5), (21, ti21), (22, ti22), (284, ti284), (285, ti285)], [38, 230], bs, none, []⟩
abbrev n_name_Append : FuncId := 176
theorem b_name_Append : Tryz.prog.funcs[n_name_Append]? = some Tryz.f176 := Tryz.func176
theorem good_name_Append (W0 : World) (S : Nat → Prop) (bs : List Nat := []) : Good (cx_name_Append W0 S bs) := ⟨fmc ⟨ok3, fmc ⟨ok5, fmc ⟨ok21, fmc ⟨ok22, fmc ⟨ok284, fmc ⟨ok285, (fun _ h => by cases h)⟩⟩⟩⟩⟩⟩, fmc ⟨by kernel_rfl, fmc ⟨by kernel_rfl, (fun _ h => by cases h)⟩⟩, mixed⟩
abbrev n_strings_Builder_copyCheck : FuncId := 182
noncomputable def cx_name_Runes (W0 : World) (S : Nat → Prop) (bs : List Nat := []) : Cx := ⟨Tryz.prog, W0, S, 4, [(9, ti9)], [234], bs, none, []⟩
abbrev n_name_Runes : FuncId := 183
theorem b_name_Runes : Tryz.prog.funcs[n_name_Runes]? = some Tryz.f183 := Tryz.func183
theorem good_name_Runes (W0 : World) (S : Nat → Prop) (bs : List Nat := []) : Good (cx_name_Runes W0 S bs) := ⟨fmc ⟨ok9, (fun _ h => by cases h)⟩, fmc ⟨by kernel_rfl, (fun _ h => by cases h)⟩, mixed⟩
noncomputable def cx_name_prepared_1 (W0 : World) (S : Nat → Prop) (bs : List Nat := []) : Cx := ⟨Tryz.prog, W0, S, 21, [(9, ti9), (21, ti21), (214, ti214), (216, ti216), (280, ti280), (281, ti281), (282, ti282)], [175, 183], bs, none, []⟩
abbrev n_name_prepared_1 : FuncId := 229
theorem b_name_prepared_1 : Tryz.prog.funcs[n_name_prepared_1]? = some Tryz.f229 := Tryz.func229
theorem good_name_prepared_1 (W0 : World) (S : Nat → Prop) (bs : List Nat := []) : Good (cx_name_prepared_1 W0 S bs) := ⟨fmc ⟨ok9, fmc ⟨ok21, fmc ⟨ok214, fmc ⟨ok216, fmc ⟨ok280, fmc ⟨ok281, fmc ⟨ok282, (fun _ h => by cases h)⟩⟩⟩⟩⟩⟩⟩, fmc ⟨by kernel_rfl, fmc ⟨by kernel_rfl, (fun _ h => by cases h)⟩⟩, mixed⟩
noncomputable def cx_name_sign (W0 : World) (S : Nat → Prop) (bs : List Nat := []) : Cx := ⟨Tryz.prog, W0, S, 17, [(21, ti21)], [], bs, none, []⟩
abbrev n_name_sign : FuncId := 230
theorem b_name_sign : Tryz.prog.funcs[n_name_sign]? = some Tryz.f230 := Tryz.func230
theorem good_name_sign (W0 : World) (S : Nat → Prop) (bs : List Nat := []) : Good (cx_name_sign W0 S bs) := ⟨fmc ⟨ok21, (fun _ h => by cases h)⟩, (fun _ h => by cases h), mixed⟩
noncomputable def cx_name_Runes_1 (W0 : World) (S : Nat → Prop) (bs : List Nat := []) : Cx := ⟨Tryz.prog, W0, S, 25, [(3, ti3), (9, ti9), (21, ti21)], [235], bs, none, []⟩
abbrev n_name_Runes_1 : FuncId := 234
theorem b_name_Runes_1 : Tryz.prog.funcs[n_name_Runes_1]? = some Tryz.f234 := Tryz.func234
theorem good_name_Runes_1 (W0 : World) (S : Nat → Prop) (bs : List Nat := []) : Good (cx_name_Runes_1 W0 S bs) := ⟨fmc ⟨ok3, fmc ⟨ok9, fmc ⟨ok21, (fun _ h => by cases h)⟩⟩⟩, fmc ⟨by kernel_rfl, (fun _ h => by cases h)⟩, mixed⟩
noncomputable def cx_name_decode (W0 : World) (S : Nat → Prop) (bs : List Nat := []) : Cx := ⟨Tryz.prog, W0, S, 64, [(3, ti3), (5, ti5), (9, ti9), (21, ti21), (284, ti284), (285, ti285)], [230], bs, none, []⟩
abbrev n_name_decode : FuncId := 235
theorem b_name_decode : Tryz.prog.funcs[n_name_decode]? = some Tryz.f235 := Tryz.func235
def p_name_decode_4 : Plan := .take 0 (.take 1 (.take 2 (.take 3 (.take 4 (.take 5 (.take 6 (.take 7 (.take 8 (.take 9 (.take 10 (.take 11 (.take 12 (.take 13 (.take 14 (.done)))))))))))))))
def p_name_decode_5 : Plan := .take 0 (.take 1 (.take 2 (.take 3 (.take 4 (.take 5 (.take 6 (.done)))))))
def p_name_decode_12 : Plan := .take 0 (.take 1 (.take 2 (.take 3 (.take 4 (.done)))))
theorem good_name_decode (W0 : World) (S : Nat → Prop) (bs : List Nat := []) : Good (cx_name_decode W0 S bs) := ⟨fmc ⟨ok3, fmc ⟨ok5, fmc ⟨ok9, fmc ⟨ok21, fmc ⟨ok284, fmc ⟨ok285, (fun _ h => by cases h)⟩⟩⟩⟩⟩⟩, fmc ⟨by kernel_rfl, (fun _ h => by cases h)⟩, mixed⟩
end Go.Proofs.YtnhckgipdoojeaaGreatDoor.Sx

namespace Go.Proofs.YtnhckgipdoojeaaGreatDoor.Sx
open Go
attribute [local irreducible] Calls
theorem cut_c (w : World) (A : Option Addr) (l : List UInt8) (c k : Nat) (hr : Bs w A l) (hc : l.length ≤ c) (hn : k ≤ lim) :
    Calls Tryz.prog n_ostiaryref01_Cut #[.slice A l.length c, .int .i64 k] w fun e w' => ∃ v, e = .returned v ∧ ∃ A' c', v = .slice A' (l.take k).length c' ∧ Chg None_ w w' ∧ NewRow w w' A' (l.take k) c' ty_uint8 := by
  have hk : (l.take k).length = min l.length k := by simp; omega
  refine calls_of_sx (cx := cx_ostiaryref01_Cut w None_) (good_ostiaryref01_Cut w None_) b_ostiaryref01_Cut rfl rfl (β := Va.z) [.c (.v (.slice A l.length c)), .c (.v (.int .i64 k))] 0 [] [bsF A l] rfl rfl ((Sat.start rfl).rd (fun _ h => by cases h) hr) ?_
  intro b
  refine ⟨_, mn _ _, ?_⟩
  refine ⟨c, min l.length k, 0, (l.take k).length, c, _, rfl, rfl, rfl, Nat.le_refl _, by omega, Nat.zero_le _, by omega, rfl, rfl, ?_⟩
  refine ⟨0, 0, (l.take k).length, [], (l.take k).map byte, _, rfl, fun β w hs => ?_, bytes_one _, Nat.zero_add _, rfl, by rw [maxLen_eq]; rw [lim_eq] at hn; omega, by show (l.take k).length * 1 ≤ _; rw [lim_eq] at hn; omega, ?_⟩
  · have h1 := Bs.cut (hs.get 1 rfl : Bs w A l) (c := c) (m := c) (i := 0) (j := (l.take k).length) hc (.inl rfl) (Nat.zero_le _) (by omega) (Nat.le_refl _)
    rw [Nat.sub_zero, List.drop_zero] at h1
    rw [show l.take (l.take k).length = l.take k by rw [hk]; simp [List.take_eq_take_iff, Nat.min_comm]] at h1
    exact h1
  intro A' c' h1 h2 h3 β w' hs
  exact ⟨A', c', rfl, hs.chg, hs.newRow rfl 0 rfl h1 h2⟩
theorem ofNat_toNat (n : Nat) (h : n < 256) : (UInt8.ofNat n).toNat = n := by simp; omega
theorem byte_ofNat (n : Nat) (h : n < 256) : byte (UInt8.ofNat n) = .int .u8 (n : Int) := by simp only [byte, ofNat_toNat n h]
theorem wrap_u8 (x : Int) : IntKind.u8.wrap x = x % 256 := by simp [IntKind.wrap, IntKind.bits, IntKind.signed]
theorem NewRow.none (w w' : World) (e : Nat) : NewRow w w' none [] 0 e :=
  ⟨Nat.le_refl _, Nat.zero_le _, World.ownsRow_nil w' 0 e 1, fun k hk => by cases hk⟩
theorem NewRow.from {w w1 w' : World} {A : Option Addr} {l : List UInt8} {c e : Nat} (h : NewRow w1 w' A l c e) (hs : w.heap.size ≤ w1.heap.size) : NewRow w w' A l c e :=
  ⟨h.1, h.2.1, h.2.2.1, fun k hk => Nat.le_trans hs (h.2.2.2 k hk)⟩
end Go.Proofs.YtnhckgipdoojeaaGreatDoor.Sx

namespace Go.Proofs
open Go.Shelf
def Tryz.lays156_ren : Go.Shelf.Ren := ⟨fun | 156 => 156 | 165 => 209 | 166 => 127 | 169 => 129 | 240 => 182 | 241 => 265 | 276 => 233 | 277 => 263 | n => n, fun | 31 => 157 | 9 => 9 | 3 => 3 | 4 => 4 | 0 => 0 | 20 => 20 | 72 => 172 | 76 => 104 | 70 => 170 | 37 => 22 | 75 => 103 | 127 => 223 | 164 => 287 | 5 => 5 | 80 => 41 | n => n, fun | n => n⟩
theorem Tryz.lays156 : Go.Proofs.Lays.n156 Tryz.prog Tryz.lays156_ren := {
  mixed := by kernel_rfl
  f156 := Tryz.func156.trans (congrArg some (by kernel_rfl))
  f165 := Tryz.func209.trans (congrArg some (by kernel_rfl))
  f166 := Tryz.func127.trans (congrArg some (by kernel_rfl))
  f169 := Tryz.func129.trans (congrArg some (by kernel_rfl))
  f240 := Tryz.func182.trans (congrArg some (by kernel_rfl))
  f241 := Tryz.func265.trans (congrArg some (by kernel_rfl))
  f276 := Tryz.func233.trans (congrArg some (by kernel_rfl))
  f277 := Tryz.func263.trans (congrArg some (by kernel_rfl))
  t0 := Tryz.underlying0
  a0 := Tryz.isAgg0
  z0 := Tryz.sizeOf0
  v0 := Tryz.zeroValue0
  t3 := Tryz.underlying3
  a3 := Tryz.isAgg3
  z3 := Tryz.sizeOf3
  v3 := Tryz.zeroValue3
  t4 := Tryz.underlying4
  a4 := Tryz.isAgg4
  z4 := Tryz.sizeOf4
  v4 := Tryz.zeroValue4
  t9 := Tryz.underlying9
  a9 := Tryz.isAgg9
  z9 := Tryz.sizeOf9
  v9 := Tryz.zeroValue9
  t20 := Tryz.underlying20
  a20 := Tryz.isAgg20
  z20 := Tryz.sizeOf20
  v20 := Tryz.zeroValue20
  t31 := Tryz.underlying157
  a31 := Tryz.isAgg157
  z31 := Tryz.sizeOf157
  v31 := Tryz.zeroValue157
  t37 := Tryz.underlying22
  a37 := Tryz.isAgg22
  z37 := Tryz.sizeOf22
  v37 := Tryz.zeroValue22
  t70 := Tryz.underlying170
  a70 := Tryz.isAgg170
  z70 := Tryz.sizeOf170
  v70 := Tryz.zeroValue170
  t72 := Tryz.underlying172
  a72 := Tryz.isAgg172
  z72 := Tryz.sizeOf172
  v72 := Tryz.zeroValue172
  t75 := Tryz.underlying103
  a75 := Tryz.isAgg103
  z75 := Tryz.sizeOf103
  v75 := Tryz.zeroValue103
  t76 := Tryz.underlying104
  a76 := Tryz.isAgg104
  z76 := Tryz.sizeOf104
  v76 := Tryz.zeroValue104
  t127 := Tryz.underlying223
  a127 := Tryz.isAgg223
  z127 := Tryz.sizeOf223
  v127 := Tryz.zeroValue223
  t164 := Tryz.underlying287
  a164 := Tryz.isAgg287
  z164 := Tryz.sizeOf287
  v164 := Tryz.zeroValue287 }
theorem Tryz.Builder_Extra_156 : Builder.Extra Tryz.prog Tryz.lays156_ren := {
  sizeBuilder := by kernel_rfl
  liesBuilder := by kernel_rfl
  t5 := Tryz.underlying5
  a5 := Tryz.isAgg5
  z5 := Tryz.sizeOf5
  v5 := Tryz.zeroValue5
  infoByte := by kernel_rfl
  cellsByte := by kernel_rfl
  sizeByte := by kernel_rfl
  neB5 := by decide }
end Go.Proofs

namespace Go.Proofs.YtnhckgipdoojeaaGreatDoor.Sx
open Go
attribute [local irreducible] Calls
def selfV (b : Nat) : Value := .pointer (some ⟨b, 0, none⟩)
theorem con_of_calls {P : Program} {k : FuncId} {args : Array Value} {w : World} {Gs : List Fact} {R : Value → List Fact → Prop} (h : Calls P k args w fun e w' => ∃ v, e = .returned v ∧ Fin w Gs R v w') : Con P k args w Gs R := h
theorem fin_one {w w' : World} {f f' : Fact} {R : Value → List Fact → Prop} {v : Value} (hR : R v [f']) (hc : Chg f.D w w') (hp : f'.p w') (ho : f'.own = true) (hD : ∀ k, f'.D k → f.D k ∧ k < w'.heap.size) : Fin w [f] R v w' := by
  have hu : Un [f] = f.D := by funext k; simp [Un]
  refine ⟨[f'], hR, by rw [hu]; exact hc, ⟨fun g hg => ?_, fun g hg k hk => ?_, List.pairwise_singleton _ _⟩, ⟨ho, trivial⟩, fun g hg k hk => ?_⟩
  · obtain rfl := List.mem_singleton.1 hg; exact hp
  · obtain rfl := List.mem_singleton.1 hg; exact (hD k hk).2
  · obtain rfl := List.mem_singleton.1 hg; rw [hu]; exact .inl (hD k hk).1
theorem copyCheck_c (w : World) (b : Nat) (p x : Value) (hp : p = .pointer none ∨ p = selfV b) (h : (bkF b ty_strings_Builder [p, x]).p w) :
    Con Tryz.prog n_strings_Builder_copyCheck #[selfV b] w [bkF b ty_strings_Builder [p, x]] fun v Fs => v = .tuple #[] ∧ Fs = [bkF b ty_strings_Builder [selfV b, x]] := by
  have hb : w.heap[b]? = some (.cells #[p, x] ty_strings_Builder (0, 0)) := h
  have hlt : b < w.heap.size := (Array.getElem?_eq_some_iff.1 hb).1
  have h0 : w.cell? ⟨b, 0, none⟩ = some p := by rw [cell_of_row w b 0 _ _ _ hb]; rfl
  rcases hp with rfl | rfl
  · refine con_of_calls (Calls.mono (Any.Builder_copyCheck_fresh { Tryz.lays156 with } Tryz.Builder_Extra_156.toX72 b w h0 (by simp [World.shape?, hb]; rfl) (by simp [World.frozen?, hb])) ?_)
    rintro e w' ⟨rfl, rfl⟩
    have h2 := heap_setCell_same w b 0 #[.pointer none, x] ty_strings_Builder (selfV b) hb
    refine ⟨_, rfl, fin_one (f' := bkF b ty_strings_Builder [selfV b, x]) ⟨rfl, rfl⟩ ⟨rfl, rfl, rfl, by simp [World.setCell], fun k _ hk => heap_setCell_other w _ k _ hk⟩ h2 rfl (fun k hk => ⟨hk, ?_⟩)⟩
    obtain rfl : k = b := hk
    simpa [World.setCell] using hlt
  · refine con_of_calls (Calls.mono (Any.Builder_copyCheck_used { Tryz.lays156 with } Tryz.Builder_Extra_156.toX72 b w h0) ?_)
    rintro e w' ⟨rfl, rfl⟩
    refine ⟨_, rfl, fin_one (f' := bkF b ty_strings_Builder [selfV b, x]) ⟨rfl, rfl⟩ (Chg.refl _ _) h rfl (fun k hk => ⟨hk, ?_⟩)⟩
    obtain rfl : k = b := hk
    exact hlt
def bldF (b : Nat) (p : Value) (A : Option Addr) (l : List UInt8) (c : Nat) : List Fact := [bkF b ty_strings_Builder [p, .slice A l.length c], browF ty_uint8 A l c]
theorem writeByte_c (w : World) (b : Nat) (p : Value) (A : Option Addr) (l : List UInt8) (c : Nat) (x : UInt8) (hp : p = .pointer none ∨ p = selfV b) (hl : l.length < 140737488355328) (hm : Mem w (bldF b p A l c)) :
    Con Tryz.prog n_strings_Builder_WriteByte #[selfV b, byte x] w (bldF b p A l c) fun v Fs => v = .nilIface ∧ ∃ A' c', Fs = bldF b (selfV b) A' (l ++ [x]) c' := by
  have g := good_strings_Builder_WriteByte w (Un (bldF b p A l c))
  refine con_of_sx (cx := cx_strings_Builder_WriteByte w (Un (bldF b p A l c))) g b_strings_Builder_WriteByte rfl rfl (β := Va.z) [.c (.v (selfV b)), .c (.v (byte x))] 0 [] _ rfl rfl (hm.sat0 rfl (fun f hf _ k hk => ⟨f, hf, hk⟩)) ?_
  refine call_con [0] (fun β w' hs => copyCheck_c w' b p _ hp (hs.get 0 rfl)) ?_
  rintro v Fs ⟨rfl, rfl⟩
  refine ⟨.slice A l.length c, fun β w' hs => by
    have hb : w'.heap[b]? = some (.cells #[selfV b, .slice A l.length c] ty_strings_Builder (0, 0)) := hs.get 0 rfl
    show w'.cell? ⟨b, 1, none⟩ = _
    rw [cell_of_row w' b 1 _ _ _ hb]; rfl, ?_⟩
  intro b2
  refine ⟨2, l.length, l.length + 1, l.map byte, [byte x], (l ++ [x]).map byte, rfl, fun β w' hs => row_rd (hs.get 0 rfl), bytes_one [x], rfl, by simp, by rw [maxLen_eq]; omega, by show (l.length + 1) * 1 ≤ _; omega, ?_⟩
  intro A' c' h1 h2 h3
  refine ⟨_, fun β w' hs => hs.bkSet 1 (o := 1) (us := [.slice A' (l.length + 1) c']) rfl (Nat.le_refl 2) (fun u hu => by obtain rfl := List.mem_singleton.1 hu; rfl), ?_⟩
  intro β w' hs
  have e : (l ++ [x]).length = l.length + 1 := by simp
  refine hs.fin [1, 2] ⟨rfl, A', c', ?_⟩
  show [bkF b ty_strings_Builder [selfV b, .slice A' (l.length + 1) c'], rowF ty_uint8 1 (.slice A' (l.length + 1) c') (l.length + 1) ((l ++ [x]).map byte)] = _
  rw [← e]
  rfl
theorem Mem.none (w : World) : Mem w [] := ⟨fun _ q => (by cases q), fun _ q => (by cases q), List.Pairwise.nil⟩
theorem cellsU8 : Tryz.prog.cellsOf ty_uint8 = 1 := by kernel_rfl
theorem ptr_byte : Tryz.prog.underlying ty_ptr_uint8 = some (.pointer ty_uint8) := by kernel_rfl
theorem text_c (w : World) (b : Nat) (p : Value) (A : Option Addr) (l : List UInt8) (c : Nat) (hne : l ≠ []) (hm : Mem w (bldF b p A l c)) :
    Con Tryz.prog n_strings_Builder_String #[selfV b] w (bldF b p A l c) fun v Fs => v = .string ⟨l.toArray⟩ ∧ Fs = [] := by
  have g := good_strings_Builder_String w (Un (bldF b p A l c))
  have hl0 : l.length ≠ 0 := by simpa using hne
  have hrow : w.ownsRow 0 ty_uint8 1 (.slice A l.length c) l.length (l.map byte) := hm.fact _ (List.mem_cons_of_mem _ List.mem_cons_self)
  obtain ⟨gb, rfl, hlc, hcm⟩ : ∃ gb, A = some ⟨gb, 0, none⟩ ∧ l.length ≤ c ∧ c ≤ maxLen := by
    rcases hrow.2 with ⟨_, hz⟩ | ⟨gb, cap, cur, hv, _, _, h1, h2, _⟩
    · exact absurd hz hl0
    · injection hv with h3 h4 h5
      subst h5
      exact ⟨gb, h3, h1, h2⟩
  refine con_of_sx (cx := cx_strings_Builder_String w (Un (bldF b p (some ⟨gb, 0, none⟩) l c))) g b_strings_Builder_String rfl rfl (β := Va.z) [.c (.v (selfV b))] 0 [] _ rfl rfl (hm.sat0 rfl (fun f hf _ k hk => ⟨f, hf, hk⟩)) ?_
  refine draw_rule g p_strings_Builder_String_1 (by kernel_rfl) [] [bkF b ty_strings_Builder [p, .slice (some ⟨gb, 0, none⟩) l.length c]] (Sub.of (List.nil_sublist _) (List.sublist_append_left [_] [_])) ?_
  have hcell : ∀ (cx : Cx) (n : Nat) (β : Va) (w' : World), Sat cx β n [] [bkF b ty_strings_Builder [p, .slice (some ⟨gb, 0, none⟩) l.length c]] w' → w'.cell? ⟨b, 1, none⟩ = some (.slice (some ⟨gb, 0, none⟩) l.length c) := fun cx n β w' hs => by
    have hb : w'.heap[b]? = some (.cells #[p, .slice (some ⟨gb, 0, none⟩) l.length c] ty_strings_Builder (0, 0)) := hs.get 0 rfl
    rw [cell_of_row w' b 1 _ _ _ hb]; rfl
  refine ⟨.slice (some ⟨gb, 0, none⟩) l.length c, hcell _ _, ?_⟩
  refine ⟨.slice (some ⟨gb, 0, none⟩) l.length c, hcell _ _, ?_⟩
  refine ⟨[], _, .c (.v (.pointer (some ⟨gb, 0, none⟩))), fun β w' ty hs => ⟨w', ?_, hs⟩, trivial, Sub.of (List.nil_sublist _) (List.sublist_append_left [_] [_]), ?_⟩
  · have := Lib.run_unsafeSliceData_row (P := Tryz.prog) w' #[ty_sl_uint8] ty ⟨gb, 0, none⟩ l.length c (by omega)
    simp only [builtin, Sem.run_bind]
    erw [this]
    rfl
  refine ⟨[], [bkF b ty_strings_Builder [p, .slice (some ⟨gb, 0, none⟩) l.length c]], .c (.v (.string ⟨l.toArray⟩)), fun β w' ty hs => ⟨w'.freeze ⟨gb, 0, none⟩ l.length, ?_, ?_⟩, trivial, Sub.refl, ?_⟩
  · have hrow' : w'.ownsRow 0 ty_uint8 1 (.slice (some ⟨gb, 0, none⟩) l.length c) l.length (l.map byte) := hs.get 1 rfl
    obtain ⟨cur, hg, hcs⟩ : ∃ cur, w'.heap[gb]? = some (.cells cur ty_uint8 (0, 0)) ∧ cur.size = c * 1 := by
      rcases hrow'.2 with ⟨_, hz⟩ | ⟨g', cap, cur, hv, _, hg, _, _, h3, _⟩
      · exact absurd hz hl0
      · injection hv with h4 h5 h6
        injection h4 with h4
        injection h4 with h4
        subst h4 h6
        exact ⟨cur, hg, h3⟩
    have := Lib.run_unsafeString_row (P := Tryz.prog) w' ty_ptr_uint8 3 ty ty_uint8 ptr_byte cellsU8 gb cur.size (by simp [World.shape?, hg]) l hne (by omega) (by rw [maxLen_eq] at hcm; omega) (fun j x hx => by
      have hr := row_rd hrow'
      obtain ⟨ad, q, hc⟩ := hr.2 (by omega)
      obtain rfl := Option.some.inj q
      exact hc j (byte x) (by simp [hx]))
    simp only [builtin, Sem.run_bind]
    erw [this]
    rfl
  · refine hs.swap [1] ⟨rfl, trivial⟩ (Fs := []) (Chg.mono (freeze_chg _ _ _) (fun i _ q => ⟨_, List.mem_singleton.2 rfl, ?_⟩)) (Mem.none _) (fun _ q => by cases q)
    obtain rfl : i = gb := q
    rfl
  intro β w' hs
  exact hs.fin [] ⟨rfl, rfl⟩
end Go.Proofs.YtnhckgipdoojeaaGreatDoor.Sx

namespace Go.Proofs.YtnhckgipdoojeaaGreatDoor.Sx
open Go
def u32 (x : UInt32) : Value := .int .u32 (x.toNat : Int)
theorem shr32 (a : UInt32) (n : Nat) (hn : n < 32) : (a.toNat : Int).fdiv (2 ^ (min (n : Int).toNat IntKind.u32.bits)) = ((a >>> UInt32.ofNat n).toNat : Int) := by
  have h1 : min (n : Int).toNat IntKind.u32.bits = n := by show min n 32 = n; omega
  rw [h1, UInt32.toNat_shiftRight, UInt32.toNat_ofNat', Nat.mod_eq_of_lt (show n < 2 ^ 32 by omega), Nat.mod_eq_of_lt hn, Nat.shiftRight_eq_div_pow]
  have : (2 ^ n : Int) = ((2 ^ n : Nat) : Int) := by push_cast; rfl
  rw [this, Int.fdiv_eq_ediv_of_nonneg _ (Int.natCast_nonneg _)]
  exact (Int.natCast_ediv _ _).symm
#print axioms shr32
end Go.Proofs.YtnhckgipdoojeaaGreatDoor.Sx

namespace Go.Proofs.YtnhckgipdoojeaaGreatDoor.Sha
def K : List UInt32 := [
    0x428a2f98, 0x71374491, 0xb5c0fbcf, 0xe9b5dba5, 0x3956c25b, 0x59f111f1, 0x923f82a4, 0xab1c5ed5,
    0xd807aa98, 0x12835b01, 0x243185be, 0x550c7dc3, 0x72be5d74, 0x80deb1fe, 0x9bdc06a7, 0xc19bf174,
    0xe49b69c1, 0xefbe4786, 0x0fc19dc6, 0x240ca1cc, 0x2de92c6f, 0x4a7484aa, 0x5cb0a9dc, 0x76f988da,
    0x983e5152, 0xa831c66d, 0xb00327c8, 0xbf597fc7, 0xc6e00bf3, 0xd5a79147, 0x06ca6351, 0x14292967,
    0x27b70a85, 0x2e1b2138, 0x4d2c6dfc, 0x53380d13, 0x650a7354, 0x766a0abb, 0x81c2c92e, 0x92722c85,
    0xa2bfe8a1, 0xa81a664b, 0xc24b8b70, 0xc76c51a3, 0xd192e819, 0xd6990624, 0xf40e3585, 0x106aa070,
    0x19a4c116, 0x1e376c08, 0x2748774c, 0x34b0bcb5, 0x391c0cb3, 0x4ed8aa4a, 0x5b9cca4f, 0x682e6ff3,
    0x748f82ee, 0x78a5636f, 0x84c87814, 0x8cc70208, 0x90befffa, 0xa4506ceb, 0xbef9a3f7, 0xc67178f2]
def rotr (x : UInt32) (n : Nat) : UInt32 := x >>> UInt32.ofNat n ||| x <<< UInt32.ofNat (32 - n)
def word (a b c d : UInt8) : UInt32 := UInt32.ofNat (a.toNat * 16777216 + b.toNat * 65536 + c.toNat * 256 + d.toNat)
def wordAt (p : List UInt8) (i : Nat) : UInt32 := word (p.getD (4 * i) 0) (p.getD (4 * i + 1) 0) (p.getD (4 * i + 2) 0) (p.getD (4 * i + 3) 0)
def s0 (a : UInt32) : UInt32 := rotr a 7 ^^^ rotr a 18 ^^^ a >>> 3
def s1 (b : UInt32) : UInt32 := rotr b 17 ^^^ rotr b 19 ^^^ b >>> 10
def nxt (w : List UInt32) (i : Nat) : UInt32 := w.getD (i - 16) 0 + s0 (w.getD (i - 15) 0) + w.getD (i - 7) 0 + s1 (w.getD (i - 2) 0)
def sched (p : List UInt8) : Nat → List UInt32
  | 0 => []
  | n + 1 => let w := sched p n; w ++ [if n < 16 then wordAt p n else nxt w n]
def W (p : List UInt8) : List UInt32 := sched p 64
structure S8 where
  a : UInt32
  b : UInt32
  c : UInt32
  d : UInt32
  e : UInt32
  f : UInt32
  g : UInt32
  h : UInt32
def S8.l (s : S8) : List UInt32 := [s.a, s.b, s.c, s.d, s.e, s.f, s.g, s.h]
def first : S8 := ⟨0x6a09e667, 0xbb67ae85, 0x3c6ef372, 0xa54ff53a, 0x510e527f, 0x9b05688c, 0x1f83d9ab, 0x5be0cd19⟩
def S8.x (s : S8) (k w : UInt32) : UInt32 := s.h + (rotr s.e 6 ^^^ rotr s.e 11 ^^^ rotr s.e 25) + (s.e &&& s.f ^^^ ~~~ s.e &&& s.g) + k + w
def S8.y (s : S8) : UInt32 := rotr s.a 2 ^^^ rotr s.a 13 ^^^ rotr s.a 22
def S8.z (s : S8) : UInt32 := s.a &&& s.b ^^^ s.a &&& s.c ^^^ s.b &&& s.c
def S8.round (s : S8) (k w : UInt32) : S8 := ⟨s.x k w + s.y + s.z, s.a, s.b, s.c, s.d + s.x k w, s.e, s.f, s.g⟩
def rounds (s : S8) (w : List UInt32) : Nat → S8
  | 0 => s
  | n + 1 => (rounds s w n).round (K.getD n 0) (w.getD n 0)
def S8.add (s t : S8) : S8 := ⟨s.a + t.a, s.b + t.b, s.c + t.c, s.d + t.d, s.e + t.e, s.f + t.f, s.g + t.g, s.h + t.h⟩
def step (s : S8) (p : List UInt8) : S8 := s.add (rounds s (W p) 64)
def b4 (x : UInt32) : List UInt8 := [(x >>> 24).toUInt8, (x >>> 16).toUInt8, (x >>> 8).toUInt8, x.toUInt8]
def out (s : S8) : List UInt8 := s.l.flatMap b4
end Go.Proofs.YtnhckgipdoojeaaGreatDoor.Sha

namespace Go.Proofs.YtnhckgipdoojeaaGreatDoor.Nam
structure Fm where
  size : Nat
  mask : UInt8
  lead : UInt8
  least : Nat
def fms : List Fm := [⟨1, 0x80, 0, 0⟩, ⟨2, 0xe0, 0xc0, 0x80⟩, ⟨3, 0xf0, 0xe0, 0x800⟩, ⟨4, 0xf8, 0xf0, 0x10000⟩]
def sign (r : Nat) : Bool := decide (r ≤ 1114111) && (decide (r < 55296) || decide (57343 < r))
def tailR : List UInt8 → Nat → Option Nat
  | [], r => some r
  | b :: t, r => if b.toNat / 64 = 2 then tailR t (r * 64 + b.toNat % 64) else none
theorem tailR_none : ∀ {l : List UInt8} {r : Nat}, (∃ b ∈ l, b.toNat / 64 ≠ 2) → tailR l r = none
  | [], _, ⟨_, h, _⟩ => by cases h
  | x :: t, r, ⟨b, hb, hn⟩ => by
    simp only [tailR]
    split
    · rename_i hx
      rcases List.mem_cons.1 hb with rfl | hb
      · exact absurd hx hn
      · exact tailR_none ⟨b, hb, hn⟩
    · rfl
def fits (f : Fm) (s : List UInt8) : Bool := match s with
  | [] => false
  | b :: _ => decide (b &&& f.mask = f.lead) && decide (f.size ≤ s.length)
def tryF (f : Fm) (s : List UInt8) : Option Nat := match s with
  | [] => none
  | b :: t => match tailR (t.take (f.size - 1)) (b &&& ~~~f.mask).toNat with
    | some r => if f.least ≤ r ∧ sign r = true then some r else none
    | none => none
def decL (s : List UInt8) : Option Nat × Nat := match fms.find? fun f => fits f s with
  | some f => match tryF f s with
    | some r => (some r, f.size)
    | none => (none, 1)
  | none => (none, 1)
theorem decL_size {s : List UInt8} (hs : s ≠ []) : 1 ≤ (decL s).2 ∧ (decL s).2 ≤ s.length := by
  have h1 : 0 < s.length := List.length_pos_iff.2 hs
  unfold decL
  split
  · rename_i f hf
    have hff := List.find?_some hf
    have hm := List.mem_of_find?_eq_some hf
    have hsz : 1 ≤ f.size := by
      simp only [fms, List.mem_cons, List.not_mem_nil, or_false] at hm
      rcases hm with rfl | rfl | rfl | rfl <;> decide
    have hle : f.size ≤ s.length := by
      unfold fits at hff
      split at hff
      · cases hff
      · simp only [Bool.and_eq_true, decide_eq_true_eq] at hff
        exact hff.2
    split
    · exact ⟨hsz, hle⟩
    · exact ⟨Nat.le_refl 1, h1⟩
  · exact ⟨Nat.le_refl 1, h1⟩
theorem u8_all {p : UInt8 → Prop} (h : ∀ n : Fin 256, p (UInt8.ofNat n.1)) (b : UInt8) : p b := by
  have := h ⟨b.toNat, b.toNat_lt⟩
  simpa using this
theorem one_form (b : UInt8) : ∀ f ∈ fms, ∀ g ∈ fms, b &&& f.mask = f.lead → b &&& g.mask = g.lead → f.size = g.size := by
  have h : ∀ n : Fin 256, ∀ f ∈ fms, ∀ g ∈ fms, (UInt8.ofNat n.1) &&& f.mask = f.lead → (UInt8.ofNat n.1) &&& g.mask = g.lead → f.size = g.size := by
    have key : ∀ n : Fin 256, (fms.all fun f => fms.all fun g => !decide ((UInt8.ofNat n.1) &&& f.mask = f.lead) || !decide ((UInt8.ofNat n.1) &&& g.mask = g.lead) || decide (f.size = g.size)) = true := by decide +kernel
    intro n f hf g hg h1 h2
    have := List.all_eq_true.1 (List.all_eq_true.1 (key n) f hf) g hg
    simp only [Bool.or_eq_true, Bool.not_eq_true', decide_eq_false_iff_not, decide_eq_true_eq] at this
    rcases this with (q | q) | q
    · exact absurd h1 q
    · exact absurd h2 q
    · exact q
  exact u8_all (p := fun b => ∀ f ∈ fms, ∀ g ∈ fms, b &&& f.mask = f.lead → b &&& g.mask = g.lead → f.size = g.size) h b
theorem size_inj : ∀ f ∈ fms, ∀ g ∈ fms, f.size = g.size → f = g := by
  intro f hf g hg h
  simp only [fms, List.mem_cons, List.not_mem_nil, or_false] at hf hg
  rcases hf with rfl | rfl | rfl | rfl <;> rcases hg with rfl | rfl | rfl | rfl <;> first | rfl | cases h
theorem find_form {b : UInt8} {t : List UInt8} {f : Fm} (hf : f ∈ fms) (hb : b &&& f.mask = f.lead) : fms.find? (fun g => fits g (b :: t)) = if f.size ≤ (b :: t).length then some f else none := by
  cases hq : fms.find? (fun g => fits g (b :: t)) with
  | none =>
    have h := List.find?_eq_none.1 hq f hf
    rw [if_neg]
    intro q
    exact h (by simp only [fits, Bool.and_eq_true, decide_eq_true_eq]; exact ⟨hb, q⟩)
  | some g =>
    have hg := List.mem_of_find?_eq_some hq
    have h1 := List.find?_some hq
    simp only [fits, Bool.and_eq_true, decide_eq_true_eq] at h1
    obtain rfl := size_inj g hg f hf (one_form b g hg f hf h1.1 hb)
    rw [if_pos h1.2]
def runes : List UInt8 → List (Option Nat)
  | [] => []
  | b :: t => (decL (b :: t)).1 :: runes ((b :: t).drop (decL (b :: t)).2)
termination_by s => s.length
decreasing_by
  have := decL_size (s := b :: t) (by simp)
  simp only [List.length_drop, List.length_cons] at this ⊢
  omega
theorem runes_nil : runes [] = [] := by rw [runes]
theorem runes_cons {s : List UInt8} (hs : s ≠ []) : runes s = (decL s).1 :: runes (s.drop (decL s).2) := by
  cases s with
  | nil => exact absurd rfl hs
  | cons b t => rw [runes]
end Go.Proofs.YtnhckgipdoojeaaGreatDoor.Nam

namespace Go.Proofs.YtnhckgipdoojeaaGreatDoor.Bx
structure Term where
  kind : Nat
  key : List UInt8
  text : List UInt8
  rounds : Nat
  list : List Nat
  mask : List UInt8
def vint (n : Nat) : List UInt8 := if h : n < 128 then [UInt8.ofNat n] else UInt8.ofNat (n % 128 + 128) :: vint (n / 128)
termination_by n
decreasing_by omega
def print (t : Term) : List UInt8 := [t.kind, t.rounds, t.key.length, t.text.length, t.list.length].flatMap vint ++ t.list.flatMap vint ++ (t.key ++ t.text ++ t.mask)
def front : List UInt8 := [0xf1, 84, 82, 77] ++ List.replicate 24 0
def num : List UInt8 → Nat := List.foldl (fun n b => n * 256 + b.toNat) 0
def looks (p : List UInt8) : Option Nat := if p.length = 32 ∧ p.take 28 = front then some (num (p.drop 28)) else none
open Classical in
noncomputable def place (t : Term) : List Term → Option Nat
  | [] => none
  | x :: r => if x = t then some 0 else (place t r).map (· + 1)
end Go.Proofs.YtnhckgipdoojeaaGreatDoor.Bx

namespace Go.Proofs.YtnhckgipdoojeaaGreatDoor.Sx
open Go
attribute [local irreducible] Calls
theorem wrap_u8b (x : Nat) : IntKind.u8.wrap (x : Int) = ((UInt8.ofNat x).toNat : Int) := by
  rw [wrap_u8, UInt8.toNat_ofNat']
  omega
theorem shr_nat (n k : Nat) : (n : Int).fdiv (2 ^ k) = ((n / 2 ^ k : Nat) : Int) := by
  have : (2 ^ k : Int) = ((2 ^ k : Nat) : Int) := by push_cast; rfl
  rw [this, Int.fdiv_eq_ediv_of_nonneg _ (Int.natCast_nonneg _)]
  exact (Int.natCast_ediv _ _).symm
structure HxS where
  k : Nat
  p : Value
  A : Option Addr
  c : Nat
end Go.Proofs.YtnhckgipdoojeaaGreatDoor.Sx

namespace Go.Proofs.YtnhckgipdoojeaaGreatDoor.Sx
open Go Sha
attribute [local irreducible] Calls
def sl32 (x : UInt32) : SL := .v (u32 x)
def arr (n : Nat) (ws : List UInt32) : List SL := (ws ++ List.replicate (n - ws.length) 0).map sl32
def oddF (g : Nat) : Fact := rdF 1 (some ⟨g, 0, none⟩) 64 (K.map u32)
theorem clone_c (w : World) (A : Option Addr) (l : List UInt8) (c : Nat) (hr : Bs w A l) (hn : l.length ≤ 140737488355328) :
    Con Tryz.prog n_bytes_Clone #[.slice A l.length c] w [] fun v Fs => ∃ A' c', v = .slice A' l.length c' ∧ l.length ≤ c' ∧ c' ≤ maxLen ∧ Fs = [browF ty_uint8 A' l c'] := by
  refine con_of_sx (cx := cx_bytes_Clone w (Un [])) (good_bytes_Clone w (Un [])) b_bytes_Clone rfl rfl (β := Va.z) [.c (.v (.slice A l.length c))] 0 [] [bsF A l] rfl rfl ((Sat.start rfl).rd (fun _ h => by cases h) hr) ?_
  refine BIf.mk (fun h => ?_) (fun h => ?_)
  · intro β w' hs
    have hA : A = none := by simpa using h
    subst hA
    have hl : l = [] := by
      cases l with
      | nil => rfl
      | cons x r => obtain ⟨ad, q⟩ := Bs.addr hr (by simp); cases q
    subst hl
    exact (hs.nilRow ty_uint8 1).fin [0] ⟨none, 0, rfl, Nat.le_refl _, Nat.zero_le _, rfl⟩
  intro b
  refine ⟨0, 0, l.length, [], l.map byte, _, rfl, fun β w hs => hs.get 1 rfl, bytes_one l, Nat.zero_add _, rfl, by rw [maxLen_eq]; omega, by show l.length * 1 ≤ _; omega, ?_⟩
  intro A' c' h1 h2 h3 β w' hs
  exact hs.fin [0] ⟨A', c', rfl, h1, h2, rfl⟩
def blk (q : List UInt8) (i : Nat) : List UInt8 := (q.drop (64 * i)).take 64
def firstF (g : Nat) : Fact := rdF 1 (some ⟨g, 0, none⟩) 8 (Sha.first.l.map u32)
theorem sz_app (s t : ByteArray) : (s ++ t).size = s.size + t.size := ByteArray.size_append
structure SecA where
  A0 : Option Addr
  A1 : Option Addr
  A2 : Option Addr
  A3 : Option Addr
  c0 : Nat
  c1 : Nat
  c2 : Nat
  c3 : Nat
  s0 : List UInt8
  s1 : List UInt8
  s2 : List UInt8
  s3 : List UInt8
  it : Int
def SecA.val (x : SecA) : Value := .agg #[.slice x.A0 x.s0.length x.c0, .int .i64 x.it, .slice x.A1 x.s1.length x.c1, .slice x.A2 x.s2.length x.c2, .slice x.A3 x.s3.length x.c3]
def SecA.cells (x : SecA) : List SL := [.v (.slice x.A0 x.s0.length x.c0), .v (.int .i64 x.it), .v (.slice x.A1 x.s1.length x.c1), .v (.slice x.A2 x.s2.length x.c2), .v (.slice x.A3 x.s3.length x.c3)]
structure SecA.Rd (x : SecA) (w : World) : Prop where
  h0 : Bs w x.A0 x.s0
  h1 : Bs w x.A1 x.s1
  h2 : Bs w x.A2 x.s2
  h3 : Bs w x.A3 x.s3
theorem ofInt8 (a : UInt8) : BitVec.ofInt 8 (a.toNat : Int) = a.toBitVec := by
  apply BitVec.eq_of_toNat_eq
  rw [BitVec.toNat_ofInt]
  have := a.toNat_lt
  have e : a.toBitVec.toNat = a.toNat := rfl
  rw [e]
  omega
theorem back8 (x : BitVec 8) : IntKind.u8.wrap (x.toNat : Int) = ((UInt8.ofBitVec x).toNat : Int) := by
  rw [wrap_u8]
  have := x.isLt
  have e : (UInt8.ofBitVec x).toNat = x.toNat := rfl
  rw [e]
  omega
theorem or8 (a b : UInt8) : bits .or .u8 (a.toNat : Int) (b.toNat : Int) = ((a ||| b).toNat : Int) := by
  show IntKind.u8.wrap (((BitVec.ofInt 8 (a.toNat : Int)) ||| (BitVec.ofInt 8 (b.toNat : Int))).toNat : Int) = _
  rw [ofInt8, ofInt8, back8]
  rfl
end Go.Proofs.YtnhckgipdoojeaaGreatDoor.Sx

namespace Go.Proofs.YtnhckgipdoojeaaGreatDoor.Sx
open Go
attribute [local irreducible] Calls
theorem and8 (a b : UInt8) : bits .and .u8 (a.toNat : Int) (b.toNat : Int) = ((a &&& b).toNat : Int) := by
  show IntKind.u8.wrap (((BitVec.ofInt 8 (a.toNat : Int)) &&& (BitVec.ofInt 8 (b.toNat : Int))).toNat : Int) = _
  rw [ofInt8, ofInt8, back8]
  rfl
theorem andNot8 (a b : UInt8) : bits .andNot .u8 (a.toNat : Int) (b.toNat : Int) = ((a &&& ~~~b).toNat : Int) := by
  show IntKind.u8.wrap (((BitVec.ofInt 8 (a.toNat : Int)) &&& ~~~(BitVec.ofInt 8 (b.toNat : Int))).toNat : Int) = _
  rw [ofInt8, ofInt8, back8]
  rfl
theorem wrap_i32 {x : Int} (h1 : -2147483648 ≤ x) (h2 : x ≤ 2147483647) : IntKind.i32.wrap x = x := by
  simp only [IntKind.wrap, IntKind.bits, IntKind.signed]
  simp
  omega
theorem cont_eq (b : UInt8) : ((b &&& ~~~63).toNat : Int) = 128 ↔ b.toNat / 64 = 2 := by
  have h : ∀ n : _root_.Fin 256, (((UInt8.ofNat n.1) &&& ~~~63).toNat = 128 ↔ (UInt8.ofNat n.1).toNat / 64 = 2) := by decide +kernel
  have h2 : (b &&& ~~~63).toNat = 128 ↔ b.toNat / 64 = 2 := Nam.u8_all (p := fun b => (b &&& ~~~63).toNat = 128 ↔ b.toNat / 64 = 2) h b
  omega
theorem low_eq (b : UInt8) : (b &&& 63).toNat = b.toNat % 64 := by
  have h : ∀ n : _root_.Fin 256, ((UInt8.ofNat n.1) &&& 63).toNat = (UInt8.ofNat n.1).toNat % 64 := by decide +kernel
  exact Nam.u8_all (p := fun b => (b &&& 63).toNat = b.toNat % 64) h b
theorem shl6_i32 {x : Nat} (hx : x < 33554432) : IntKind.i32.wrap ((x : Int) * 2 ^ (min (6 : Int).toNat IntKind.i32.bits)) = ((x * 64 : Nat) : Int) := by
  have h1 : min (6 : Int).toNat IntKind.i32.bits = 6 := rfl
  rw [h1, wrap_i32 (by omega) (by omega)]
  omega
theorem or6_i32 {x y : Nat} (hx : x < 33554432) (hy : y < 64) : bits .or .i32 ((x * 64 : Nat) : Int) (y : Int) = ((x * 64 + y : Nat) : Int) := by
  show IntKind.i32.wrap (((BitVec.ofInt 32 ((x * 64 : Nat) : Int)) ||| (BitVec.ofInt 32 (y : Int))).toNat : Int) = _
  have h1 : (BitVec.ofInt 32 ((x * 64 : Nat) : Int)).toNat = x <<< 6 := by
    rw [BitVec.toNat_ofInt, Nat.shiftLeft_eq]
    omega
  have h2 : (BitVec.ofInt 32 (y : Int)).toNat = y := by
    rw [BitVec.toNat_ofInt]
    omega
  rw [BitVec.toNat_or, h1, h2, ← Nat.shiftLeft_add_eq_or_of_lt (by omega) x, Nat.shiftLeft_eq, wrap_i32 (by omega) (by omega)]
theorem sign_c (w : World) (z : Int) (r : Nat) (hz : z = (r : Int)) : Pu Tryz.prog n_name_sign #[.int .i32 z] w (.bool (Nam.sign r)) := by
  refine con_of_sx (cx := cx_name_sign w (Un [])) (good_name_sign w (Un [])) b_name_sign rfl rfl (β := Va.z) [.c (.v (.int .i32 z))] 0 [] [] rfl rfl (Sat.start rfl) ?_
  have fin : ∀ (b : Bool), b = Nam.sign r → ∀ {n : Nat} {H : List Bk} {F : List Fact} (β : Va) (w' : World), Sat (cx_name_sign w (Un [])) β n H F w' → Fin w [] (fun u Fs => u = .bool (Nam.sign r) ∧ Fs = []) (.bool b) w' := by
    rintro b rfl n H F β w' hs
    exact (hs.keepB (List.nil_sublist _)).fin [] ⟨rfl, rfl⟩
  refine BIf.dec (fun h0 => ?_) (fun h0 => ?_)
  · refine BIf.dec (fun h1 => ?_) (fun h1 => ?_)
    · have h1' : z ≤ 1114111 := h1
      refine BIf.dec (fun h2 => ?_) (fun h2 => ?_)
      · have h2' : z < 55296 := h2
        refine fin true ?_
        unfold Nam.sign
        rw [decide_eq_true (by omega : r ≤ 1114111), decide_eq_true (by omega : r < 55296)]; rfl
      · have h2' : ¬ z < 55296 := h2
        refine fin (decide ((57343 : Int) < z)) ?_
        unfold Nam.sign
        rw [decide_eq_true (by omega : r ≤ 1114111), decide_eq_false (by omega : ¬ r < 55296), Bool.true_and, Bool.false_or]
        exact decide_eq_decide.2 (by omega)
    · have h1' : ¬ z ≤ 1114111 := h1
      refine fin false ?_
      unfold Nam.sign
      rw [decide_eq_false (by omega : ¬ r ≤ 1114111)]; rfl
  · have h0' : ¬ (0 : Int) ≤ z := h0
    omega
def formV (f : Nam.Fm) : List Value := [.int .i64 (f.size : Int), byte f.mask, byte f.lead, .int .i32 (f.least : Int)]
def formCells : List Value := Nam.fms.flatMap formV
def Forms (g : Nat) (w : World) : Prop := Rd 16 (some ⟨g, 0, none⟩) 1 formCells w
theorem Forms.old {g : Nat} {W w : World} (h : Forms g W) (ho : (oldF W).p w) : Forms g w := Rd.old h ho
def runeI : Option Nat → Int
  | some r => (r : Int)
  | none => -1
theorem form_at : ∀ {i : Nat} {f : Nam.Fm}, Nam.fms[i]? = some f → ((formCells.map SL.v).drop (i * 4)).take 4 = (formV f).map SL.v
  | 0, f, h => by cases h; rfl
  | 1, f, h => by cases h; rfl
  | 2, f, h => by cases h; rfl
  | 3, f, h => by cases h; rfl
  | n + 4, f, h => by simp [Nam.fms] at h
theorem tailR_snoc (b : UInt8) : ∀ (l : List UInt8) (r : Nat), Nam.tailR (l ++ [b]) r = match Nam.tailR l r with
    | some q => if b.toNat / 64 = 2 then some (q * 64 + b.toNat % 64) else none
    | none => none
  | [], r => rfl
  | x :: t, r => by
    simp only [List.cons_append, Nam.tailR]
    split
    · exact tailR_snoc b t _
    · rfl
theorem form_size {f : Nam.Fm} (h : f ∈ Nam.fms) : 1 ≤ f.size ∧ f.size ≤ 4 ∧ f.least ≤ 65536 := by
  simp only [Nam.fms, List.mem_cons, List.not_mem_nil, or_false] at h
  rcases h with rfl | rfl | rfl | rfl <;> decide
theorem decode_c (w : World) (s : ByteArray) (b0 : UInt8) (t : List UInt8) (hs0 : s.data.toList = b0 :: t) (hsz : s.size ≤ maxLen) (hf : Forms 6 w) :
    Pu Tryz.prog n_name_decode #[.string s] w (.tuple #[.int .i32 (runeI (Nam.decL (b0 :: t)).1), .int .i64 ((Nam.decL (b0 :: t)).2 : Int)]) := by
  have g := good_name_decode w (Un [])
  have hlen : s.size = (b0 :: t).length := by rw [← hs0]; rfl
  have hml := maxLen_eq
  refine con_of_sx (cx := cx_name_decode w (Un [])) g b_name_decode rfl rfl (β := Va.z) [.c (.v (.string s))] 0 [] [oldF w] rfl rfl (old_sat rfl) ?_
  refine ⟨formCells, rfl, fun β w' hs => ?_, ?_⟩
  · intro j u hu
    obtain ⟨ad, q, hc⟩ := (Forms.old hf (hs.get 0 rfl)).2 (by decide)
    cases q
    exact hc j u hu
  have bad : Nam.decL (b0 :: t) = (none, 1) → ∀ {n : Nat} {H : List Bk} {F : List Fact} (β : Va) (w' : World), Sat (cx_name_decode w (Un [])) β n H F w' → Fin w [] (fun u Fs => u = .tuple #[.int .i32 (runeI (Nam.decL (b0 :: t)).1), .int .i64 ((Nam.decL (b0 :: t)).2 : Int)] ∧ Fs = []) (.tuple #[.int .i32 (-1), .int .i64 1]) w' := by
    intro h n H F β w' hs
    rw [h]
    exact (hs.keepB (List.nil_sublist _)).fin [] ⟨rfl, rfl⟩
  refine loop_rule 0 (fun i : Nat => [(0, .c (.v (.string s))), (8, .agg (formCells.map SL.v)), (9, .c (.v (.int .i64 (i : Int))))]) (fun _ => []) (fun _ => [oldF w])
    (fun i => i ≤ 4 ∧ ∀ f ∈ Nam.fms.take i, Nam.fits f (b0 :: t) = false) (fun i => 4 - i) 0 ⟨Nat.zero_le _, fun f h => by cases h⟩ (Ent.same ⟨rfl, rfl, rfl, trivial⟩ rfl) g ?_
  rintro i ⟨hi, hno⟩
  have next : ∀ {f : Nam.Fm}, Nam.fms[i]? = some f → Nam.fits f (b0 :: t) = false → ∀ f ∈ Nam.fms.take (i + 1), Nam.fits f (b0 :: t) = false := by
    intro f hfi hff f' hf'
    rw [List.take_add_one, hfi] at hf'
    rcases List.mem_append.1 hf' with q | q
    · exact hno f' q
    · obtain rfl : f' = f := by simpa using q
      exact hff
  refine BIf.dec (fun hlt => ?_) (fun hge => ?_)
  · have hlt0 : (i : Int) < 4 := hlt
    have hi4 : i < Nam.fms.length := by show i < 4; omega
    obtain ⟨f, hfi, hfm⟩ := at_lt hi4
    have hfs := form_size hfm
    refine ⟨i, (formV f).map SL.v, rfl, by omega, form_at hfi, ?_⟩
    have hS : ∀ {n : Nat} {F : List Fact}, Sub (cx_name_decode w (Un [])) n [⟨0, ty_name_form, (formV f).map SL.v⟩] F [⟨0, ty_name_form, (formV f).map SL.v⟩] [] := fun {n F} => Sub.of (List.Sublist.refl _) (List.nil_sublist _)
    have hb0 : s.data.toList[0]? = some b0 := by rw [hs0]; rfl
    refine draw_rule g p_name_decode_4 (by kernel_rfl) [⟨0, ty_name_form, (formV f).map SL.v⟩] [] hS ?_
    refine ⟨0, b0, rfl, hb0, ?_⟩
    refine ⟨_, and8 b0 f.mask, ?_⟩
    refine BIf.not (BIf.dec (fun hm => ?_) (fun hm => ?_))
    · have hm1 : ((b0 &&& f.mask).toNat : Int) = (f.lead.toNat : Int) := hm
      have hm2 : b0 &&& f.mask = f.lead := UInt8.toNat_inj.1 (by omega)
      refine BIf.dec (fun hsh => ?_) (fun hsh => ?_)
      · have hsh1 : (s.size : Int) < (f.size : Int) := hsh
        have hff : Nam.fits f (b0 :: t) = false := by
          simp only [Nam.fits, hm2, decide_true, Bool.true_and]
          exact decide_eq_false (by omega)
        refine ⟨((i + 1 : Nat) : Int), by rw [wrap_i64 (by omega) (by omega)]; rfl, ?_⟩
        exact ⟨i + 1, ⟨by omega, next hfi hff⟩, by omega, Ent.mk' ⟨rfl, rfl, rfl, trivial⟩ rfl (fun β w hs => (hs.keepB (List.nil_sublist _)).lower)⟩
      · have hsh1 : ¬ (s.size : Int) < (f.size : Int) := hsh
        have hfl : f.size ≤ (b0 :: t).length := by omega
        have hdec : Nam.decL (b0 :: t) = match Nam.tryF f (b0 :: t) with | some r => (some r, f.size) | none => (none, 1) := by
          unfold Nam.decL
          rw [Nam.find_form hfm hm2, if_pos hfl]
          try rfl
        refine draw_rule g p_name_decode_5 (by kernel_rfl) [⟨0, ty_name_form, (formV f).map SL.v⟩] [] hS ?_
        refine ⟨0, b0, rfl, hb0, ?_⟩
        refine ⟨_, andNot8 b0 f.mask, ?_⟩
        obtain ⟨r0, hr0⟩ : ∃ r0, (b0 &&& ~~~f.mask).toNat = r0 := ⟨_, rfl⟩
        have hr0l : r0 < 256 := by rw [← hr0]; exact UInt8.toNat_lt _
        refine ⟨(r0 : Int), by rw [hr0]; exact wrap_i32 (by omega) (by omega), ?_⟩
        have hbad : Nam.tryF f (b0 :: t) = none → Nam.decL (b0 :: t) = (none, 1) := fun h => by rw [hdec, h]
        refine loop_rule (ι := Nat × Nat) 1 (fun q => [(0, .c (.v (.string s))), (5, .c (.p 0 0)), (6, .c (.v (.int .i32 (q.2 : Int)))), (7, .c (.v (.int .i64 (q.1 : Int))))]) (fun _ => [⟨0, ty_name_form, (formV f).map SL.v⟩]) (fun _ => [oldF w])
          (fun q => 1 ≤ q.1 ∧ q.1 ≤ f.size ∧ Nam.tailR (t.take (q.1 - 1)) r0 = some q.2 ∧ q.2 < 256 * 64 ^ (q.1 - 1)) (fun q => f.size - q.1) (1, r0) ⟨Nat.le_refl _, hfs.1, rfl, by simpa using hr0l⟩ (Ent.same ⟨rfl, rfl, rfl, rfl, trivial⟩ rfl) g ?_
        rintro ⟨k, r⟩ ⟨hk1, hk2, htl, hrb⟩
        simp only at hk1 hk2 htl hrb
        simp only
        refine BIf.dec (fun hks => ?_) (fun hks => ?_)
        · have hks1 : (k : Int) < (f.size : Int) := hks
          have hkt : k - 1 < t.length := by simp only [List.length_cons] at hfl; omega
          obtain ⟨c, hc, _⟩ := at_lt hkt
          have hcs : s.data.toList[k]? = some c := by
            rw [hs0]
            obtain ⟨k', rfl⟩ : ∃ k', k = k' + 1 := ⟨k - 1, by omega⟩
            simpa using hc
          have hsn : t.take k = t.take (k - 1) ++ [c] := by
            have := List.take_add_one (l := t) (i := k - 1)
            rw [hc, Nat.sub_add_cancel hk1] at this
            exact this
          have hrb2 : r < 33554432 := by
            have : 64 ^ (k - 1) ≤ 64 ^ 2 := Nat.pow_le_pow_right (by decide) (by omega)
            omega
          refine ⟨k, c, rfl, hcs, ?_⟩
          refine ⟨_, andNot8 c 63, ?_⟩
          refine BIf.not (BIf.dec (fun hct => ?_) (fun hct => ?_))
          · have hcc : c.toNat / 64 = 2 := (cont_eq c).1 hct
            refine ⟨by decide, _, shl6_i32 hrb2, ?_⟩
            refine ⟨k, c, rfl, hcs, ?_⟩
            refine ⟨_, and8 c 63, ?_⟩
            refine ⟨((c.toNat % 64 : Nat) : Int), by rw [low_eq]; exact wrap_i32 (by omega) (by omega), ?_⟩
            refine ⟨_, or6_i32 hrb2 (Nat.mod_lt _ (by decide)), ?_⟩
            refine ⟨((k + 1 : Nat) : Int), by rw [wrap_i64 (by omega) (by omega)]; rfl, ?_⟩
            refine ⟨(k + 1, r * 64 + c.toNat % 64), ⟨by show 1 ≤ k + 1; omega, by show k + 1 ≤ f.size; omega, ?_, ?_⟩, by show f.size - (k + 1) < f.size - k; omega, Ent.same ⟨rfl, rfl, rfl, rfl, trivial⟩ rfl⟩
            · show Nam.tailR (t.take (k + 1 - 1)) r0 = some (r * 64 + c.toNat % 64)
              rw [Nat.add_sub_cancel, hsn, tailR_snoc, htl]
              simp only
              rw [if_pos hcc]
            · show r * 64 + c.toNat % 64 < 256 * 64 ^ (k + 1 - 1)
              obtain ⟨k', rfl⟩ : ∃ k', k = k' + 1 := ⟨k - 1, by omega⟩
              simp only [Nat.add_sub_cancel] at hrb ⊢
              rw [Nat.pow_succ]
              omega
          · have hcc : ¬ c.toNat / 64 = 2 := fun q => hct ((cont_eq c).2 q)
            exact bad (hbad (by
              simp only [Nam.tryF]
              rw [Nam.tailR_none]
              refine ⟨c, ?_, hcc⟩
              have h2 : c ∈ t.take k := by rw [hsn]; simp
              exact List.take_subset_take_left t (by omega) h2))
        · have hks1 : ¬ (k : Int) < (f.size : Int) := hks
          obtain rfl : k = f.size := by omega
          have hmid : Nam.tryF f (b0 :: t) = if f.least ≤ r ∧ Nam.sign r = true then some r else none := by
            simp only [Nam.tryF, hr0, htl]
          refine BIf.dec (fun hls => ?_) (fun hls => ?_)
          · have hls1 : (f.least : Int) ≤ (r : Int) := hls
            refine call_pu (fun β w' hs => sign_c w' (r : Int) r rfl) ?_
            cases hsg : Nam.sign r with
            | true =>
              rw [if_pos ⟨by omega, hsg⟩] at hmid
              rw [hmid] at hdec
              refine draw_rule g p_name_decode_12 (by kernel_rfl) [⟨0, ty_name_form, (formV f).map SL.v⟩] [] hS ?_
              intro β w' hs
              rw [hdec]
              exact (hs.keepB (List.nil_sublist _)).fin [] ⟨rfl, rfl⟩
            | false => exact bad (hbad (by rw [hmid, if_neg (fun q => by rw [hsg] at q; cases q.2)]))
          · have hls1 : ¬ (f.least : Int) ≤ (r : Int) := hls
            exact bad (hbad (by rw [hmid, if_neg (fun q => hls1 (by have := q.1; omega))]))
    · have hm1 : ¬ ((b0 &&& f.mask).toNat : Int) = (f.lead.toNat : Int) := hm
      have hff : Nam.fits f (b0 :: t) = false := by
        simp only [Nam.fits]
        rw [decide_eq_false (fun q => hm1 (by rw [q]))]
        rfl
      refine ⟨((i + 1 : Nat) : Int), by rw [wrap_i64 (by omega) (by omega)]; rfl, ?_⟩
      exact ⟨i + 1, ⟨by omega, next hfi hff⟩, by omega, Ent.mk' ⟨rfl, rfl, rfl, trivial⟩ rfl (fun β w hs => (hs.keepB (List.nil_sublist _)).lower)⟩
  · have hge0 : ¬ (i : Int) < 4 := hge
    have hi4 : i = 4 := by omega
    subst hi4
    refine bad ?_
    unfold Nam.decL
    rw [List.find?_eq_none.2 (fun f hf q => by rw [hno f hf] at q; cases q)]
abbrev Sp := Int × Int
def spanV (x : Sp) : List Value := [.int .i32 x.1, .int .i32 x.2]
def inSp (z : Int) (l : List Sp) : Bool := l.any fun p => decide (p.1 ≤ z) && decide (z ≤ p.2)
theorem within_c (w : World) (z : Int) (A : Option Addr) (l : List Sp) (c : Nat) (hr : Rd 2 A l.length (l.flatMap spanV) w) (hn : l.length ≤ 1000) :
    Pu Tryz.prog n_name_within #[.int .i32 z, .slice A l.length c] w (.bool (inSp z l)) := by
  have g := good_name_within w (Un [])
  refine con_of_sx (cx := cx_name_within w (Un [])) g b_name_within rfl rfl (β := Va.z) [.c (.v (.int .i32 z)), .c (.v (.slice A l.length c))] 0 [] [oldF w] rfl rfl (old_sat rfl) ?_
  refine loop_rule 0 (fun k : Nat => [(0, .c (.v (.int .i32 z))), (7, .c (.v (.slice A l.length c))), (8, .c (.v (.int .i64 l.length))), (9, .c (.v (.int .i64 (k : Int))))]) (fun _ => []) (fun _ => [oldF w])
    (fun k => k ≤ l.length ∧ inSp z (l.take k) = false) (fun k => l.length - k) 0 ⟨Nat.zero_le _, rfl⟩ (Ent.same ⟨rfl, rfl, rfl, rfl, trivial⟩ rfl) g ?_
  rintro k ⟨hk, hno⟩
  refine BIf.dec (fun hlt => ?_) (fun hge => ?_)
  · have hlt0 : (k : Int) < l.length := hlt
    have hkl : k < l.length := by omega
    obtain ⟨x, hx, hxm⟩ := at_lt hkl
    obtain ⟨ad, hA, _⟩ := hr.2 (by omega)
    have hsn : inSp z (l.take (k + 1)) = (decide (x.1 ≤ z) && decide (z ≤ x.2)) := by
      rw [List.take_add_one, hx]
      unfold inSp at hno ⊢
      rw [List.any_append, hno]
      simp
    have next : inSp z (l.take (k + 1)) = false → Ent (cx_name_within w (Un [])) 1 [(0, .c (.v (.int .i32 z))), (7, .c (.v (.slice A l.length c))), (8, .c (.v (.int .i64 l.length))), (9, .c (.v (.int .i64 ((k + 1 : Nat) : Int))))] [] [oldF w] 0 [(0, .c (.v (.int .i32 z))), (7, .c (.v (.slice A l.length c))), (8, .c (.v (.int .i64 l.length))), (9, .c (.v (.int .i64 ((k + 1 : Nat) : Int))))] [] [oldF w] := fun _ => Ent.mk' ⟨rfl, rfl, rfl, rfl, trivial⟩ rfl (fun β w hs => hs.lower)
    refine ⟨ad, k, hA, rfl, hkl, spanV x, rfl, fun β w' hs => ?_, ?_⟩
    · have h := Rd.old hr (hs.get 0 rfl)
      obtain ⟨hil, hie⟩ := List.getElem?_eq_some_iff.1 hx
      have h2 := Rd.elem (f := spanV) (fun _ => rfl) h hA hil
      rw [hie] at h2
      exact h2
    · refine BIf.dec (fun h1 => ?_) (fun h1 => ?_)
      · have h1' : x.1 ≤ z := h1
        refine BIf.dec (fun h2 => ?_) (fun h2 => ?_)
        · have h2' : z ≤ x.2 := h2
          intro β w' hs
          refine (hs.keepB (List.nil_sublist _)).fin [] ⟨?_, rfl⟩
          show Value.bool true = _
          congr 1
          refine (List.any_eq_true.2 ⟨x, hxm, ?_⟩).symm
          rw [decide_eq_true h1', decide_eq_true h2']
          rfl
        · have h2' : ¬ z ≤ x.2 := h2
          refine ⟨((k + 1 : Nat) : Int), by rw [wrap_i64 (by omega) (by omega)]; rfl, ?_⟩
          exact ⟨k + 1, ⟨hkl, by rw [hsn, decide_eq_false h2', Bool.and_false]⟩, by omega, Ent.mk' ⟨rfl, rfl, rfl, rfl, trivial⟩ rfl (fun β w hs => (hs.keepB (List.nil_sublist _)).lower)⟩
      · have h1' : ¬ x.1 ≤ z := h1
        refine ⟨((k + 1 : Nat) : Int), by rw [wrap_i64 (by omega) (by omega)]; rfl, ?_⟩
        exact ⟨k + 1, ⟨hkl, by rw [hsn, decide_eq_false h1', Bool.false_and]⟩, by omega, Ent.mk' ⟨rfl, rfl, rfl, rfl, trivial⟩ rfl (fun β w hs => (hs.keepB (List.nil_sublist _)).lower)⟩
  · have hge0 : ¬ (k : Int) < l.length := hge
    obtain rfl : k = l.length := by omega
    rw [List.take_length] at hno
    intro β w' hs
    refine hs.fin [] ⟨?_, rfl⟩
    rw [hno]
    rfl
abbrev Rn := Nat × Int
def runesAt (l : List UInt8) (i : Nat) : List Rn := if h : i < l.length then (i, runeI (Nam.decL (l.drop i)).1) :: runesAt l (i + max 1 (Nam.decL (l.drop i)).2) else []
termination_by l.length - i
decreasing_by omega
theorem runesAt_end {l : List UInt8} {i : Nat} (h : ¬ i < l.length) : runesAt l i = [] := by rw [runesAt, dif_neg h]
theorem drop_ne {l : List UInt8} {i : Nat} (h : i < l.length) : l.drop i ≠ [] := fun q => by
  have := congrArg List.length q
  rw [List.length_drop] at this
  simp at this
  omega
theorem runesAt_cons {l : List UInt8} {i : Nat} (h : i < l.length) : runesAt l i = (i, runeI (Nam.decL (l.drop i)).1) :: runesAt l (i + (Nam.decL (l.drop i)).2) := by
  have h1 := Nam.decL_size (drop_ne h)
  rw [runesAt, dif_pos h, Nat.max_eq_right h1.1]
theorem runesAt_vals (l : List UInt8) : ∀ (k i : Nat), l.length - i ≤ k → (runesAt l i).map (·.2) = (Nam.runes (l.drop i)).map runeI := by
  intro k
  induction k with
  | zero =>
    intro i h
    rw [runesAt_end (by omega), List.drop_eq_nil_of_le (by omega), Nam.runes_nil]
    rfl
  | succ k ih =>
    intro i h
    by_cases hi : i < l.length
    · have h1 := Nam.decL_size (drop_ne hi)
      rw [runesAt_cons hi, Nam.runes_cons (drop_ne hi), List.map_cons, List.map_cons, ih _ (by omega), List.drop_drop]
    · rw [runesAt_end hi, List.drop_eq_nil_of_le (by omega), Nam.runes_nil]
      rfl
def insR (t : List UInt8) (pre : List Rn) (x : Rn) (args : Array Value) (X : Fact) : Prop := args = #[.int .i64 (x.1 : Int), .int .i32 x.2] ∧ X = noF ∧ ∃ r, runesAt t 0 = pre ++ x :: r
def runesEnd (l : List UInt8) (J Jx : List Rn → Fact → Prop) (Fs : List Fact) : Prop :=
  ∃ f Fs', Fs = f :: Fs' ∧ ((∃ xs, J xs f ∧ xs = runesAt l 0 ∧ Fs' = []) ∨ (∃ pre, Jx pre f ∧ (∃ r, runesAt l 0 = pre ++ r) ∧ Fs' = []))
def formF : Fact := rdF 16 (some ⟨6, 0, none⟩) 1 formCells
theorem extract_drop (s : ByteArray) (i : Nat) : (s.extract i s.size).data.toList = s.data.toList.drop i := by
  rw [ByteArray.data_extract, Array.toList_extract, List.extract_eq_take_drop]
  rw [List.take_of_length_le]
  rw [List.length_drop]
  exact Nat.le_refl _
theorem runes_it (l : Nat) (w : World) (bx : Nat) (s : ByteArray) (f0 R : Fact) (J Jx : List Rn → Fact → Prop) (hJ0 : J [] f0) (hJo : ∀ pre f, J pre f → f.own = true) (hRo : R.own = false) (hY : Yc Tryz.prog l J Jx R (insR s.data.toList))
    (hl : s.size ≤ 1000000) (hm : Mem w (f0 :: R :: [bkF bx ty_string [.string s], formF])) :
    Con Tryz.prog n_name_Runes_1 #[.func (.yield l) #[] #[], .pointer (some ⟨bx, 0, none⟩)] w [f0, bkF bx ty_string [.string s]] (fun _ Fs => runesEnd s.data.toList J Jx Fs) := by
  have g := good_name_Runes_1 w (Un [f0, bkF bx ty_string [.string s]]) [bx]
  have hs0 : Sat (cx_name_Runes_1 w (Un [f0, bkF bx ty_string [.string s]]) [bx]) (Va.of fun _ => bx) 1 [] (f0 :: R :: [bkF bx ty_string [.string s], formF]) w := by
    refine hm.sat rfl (fun f hf ho k hk => ?_) ⟨Nat.le_refl 1, fun i hi => by obtain rfl : i = 0 := Nat.lt_one_iff.1 hi; rfl⟩
    simp only [List.mem_cons, List.not_mem_nil, or_false] at hf
    rcases hf with rfl | rfl | rfl | rfl
    · exact ⟨_, by simp, hk⟩
    · rw [hRo] at ho; cases ho
    · exact ⟨_, by simp, hk⟩
    · cases ho
  have hs1 := hs0.toBk 2 rfl 0 Nat.zero_lt_one rfl
  have hlen : s.data.toList.length = s.size := rfl
  have hml := maxLen_eq
  refine con_of_sx (cx := cx_name_Runes_1 w (Un [f0, bkF bx ty_string [.string s]]) [bx]) g b_name_Runes_1 rfl rfl (β := Va.of fun _ => bx) [.c (.v (.func (.yield l) #[] #[])), .c (.p 0 0)] 1 _ _ rfl rfl hs1 ?_
  refine loop_rule (ι := List Rn × Nat × Fact) 1 (fun i => [(0, .c (.v (.func (.yield l) #[] #[]))), (1, .c (.p 0 0)), (3, .c (.v (.int .i64 (i.2.1 : Int))))]) (fun _ => [⟨0, ty_string, [.v (.string s)]⟩]) (fun i => [i.2.2, R, formF])
    (fun i => J i.1 i.2.2 ∧ runesAt s.data.toList 0 = i.1 ++ runesAt s.data.toList i.2.1 ∧ i.2.1 ≤ s.size) (fun i => s.size - i.2.1) ([], 0, f0) ⟨hJ0, rfl, Nat.zero_le _⟩ (Ent.same ⟨rfl, rfl, rfl, trivial⟩ rfl) g ?_
  rintro ⟨pre, i, f⟩ ⟨hJ, hsc, hi⟩
  simp only at hJ hsc hi
  have hfo := hJo _ _ hJ
  simp only
  refine BIf.dec (fun hlt => ?_) (fun hge => ?_)
  · have hlt0 : (i : Int) < s.size := hlt
    have hil : i < s.data.toList.length := by omega
    refine ⟨s.size, i, rfl, rfl, Nat.le_refl _, hi, ?_⟩
    have hd := Nam.decL_size (drop_ne hil)
    rw [List.length_drop] at hd
    rw [runesAt_cons hil] at hsc
    obtain ⟨b0, t, hbt⟩ : ∃ b0 t, s.data.toList.drop i = b0 :: t := by
      cases h : s.data.toList.drop i with
      | nil => exact absurd h (drop_ne hil)
      | cons b t => exact ⟨b, t, rfl⟩
    obtain ⟨o, n, hon⟩ : ∃ o n, Nam.decL (s.data.toList.drop i) = (o, n) := ⟨_, _, rfl⟩
    rw [hon] at hd hsc
    simp only at hd hsc
    refine call_pu (v := .tuple #[.int .i32 (runeI o), .int .i64 (n : Int)]) (fun β w' hs => by
      have h := decode_c w' (s.extract i s.size) b0 t (by rw [extract_drop, hbt]) (by rw [ByteArray.size_extract]; omega) (hs.get 2 rfl)
      rw [← hbt, hon] at h
      exact h) ?_
    refine yield_ro (X := noF) (x := (i, runeI o)) hY 0 1 rfl hJ hfo rfl hRo (by decide) (fun β => ⟨rfl, rfl, _, hsc⟩) rfl (fun β w _ => ⟨trivial, fun k hk => hk.elim, fun k _ h => h.elim⟩) ?_ ?_
    · intro f2 hfo2 hJ2
      refine ⟨((i + n : Nat) : Int), by rw [wrap_i64 (by omega) (by omega)]; rfl, ?_⟩
      exact ⟨(pre ++ [(i, runeI o)], i + n, f2), ⟨hJ2, by show runesAt s.data.toList 0 = pre ++ [(i, runeI o)] ++ runesAt s.data.toList (i + n); rw [hsc]; simp, by show i + n ≤ s.size; omega⟩, by show s.size - (i + n) < s.size - i; omega, Ent.same ⟨rfl, rfl, rfl, trivial⟩ rfl⟩
    · intro f2 hfo2 hJ2 β w' hs
      exact (hs.keepB (List.nil_sublist _)).fin [0] ⟨f2, [], rfl, .inr ⟨_, hJ2, ⟨runesAt s.data.toList (i + n), by rw [hsc]; simp⟩, rfl⟩⟩ rfl rfl rfl ⟨hfo2, trivial⟩
  · have hge0 : ¬ (i : Int) < s.size := hge
    rw [runesAt_end (l := s.data.toList) (i := i) (by omega), List.append_nil] at hsc
    intro β w' hs
    exact (hs.keepB (List.nil_sublist _)).fin [0] ⟨f, [], rfl, .inl ⟨pre, hJ, hsc.symm, rfl⟩⟩ rfl rfl rfl ⟨hfo, trivial⟩
theorem runes_c (w : World) (s : ByteArray) : Con Tryz.prog n_name_Runes #[.string s] w [] (fun v Fs => ∃ bx, v = .func (.func n_name_Runes_1) #[] #[.pointer (some ⟨bx, 0, none⟩)] ∧ Fs = [bkF bx ty_string [.string s]]) := by
  refine con_of_sx (cx := cx_name_Runes w (Un [])) (good_name_Runes w (Un [])) b_name_Runes rfl rfl (β := Va.z) [.c (.v (.string s))] 0 [] [] rfl rfl (Sat.start rfl) ?_
  intro β w' hs
  exact hs.ofBk.fin [0] ⟨β 0, rfl, rfl⟩
def validB (l : List UInt8) : Bool := (Nam.runes l).all Option.isSome
theorem runeI_none {o : Option Nat} : runeI o = -1 ↔ o = none := by
  cases o with
  | none => simp [runeI]
  | some r =>
    simp only [runeI]
    constructor
    · intro h; omega
    · intro h; cases h
theorem valid_iff (l : List UInt8) : validB l = true ↔ ∀ x ∈ runesAt l 0, x.2 ≠ -1 := by
  have h := runesAt_vals l _ 0 (Nat.le_refl _)
  rw [List.drop_zero] at h
  unfold validB
  rw [List.all_eq_true]
  constructor
  · intro hv x hx q
    have : x.2 ∈ (runesAt l 0).map (·.2) := List.mem_map.2 ⟨x, hx, rfl⟩
    rw [h] at this
    obtain ⟨o, ho, hq⟩ := List.mem_map.1 this
    have h2 := hv o ho
    rw [q] at hq
    rw [runeI_none.1 hq] at h2
    cases h2
  · intro hv o ho
    cases o with
    | some r => rfl
    | none =>
      have : runeI none ∈ (Nam.runes l).map runeI := List.mem_map.2 ⟨none, ho, rfl⟩
      rw [← h] at this
      obtain ⟨x, hx, hq⟩ := List.mem_map.1 this
      exact absurd hq (hv x hx)
theorem valid_c (w0 : World) (s : ByteArray) (hl : s.size ≤ 1000000) (hf : Forms 6 w0) : Pu Tryz.prog n_name_Valid #[.string s] w0 (.bool (validB s.data.toList)) := by
  have g := good_name_Valid w0 (Un [])
  refine con_of_sx (cx := cx_name_Valid w0 (Un [])) g b_name_Valid rfl rfl (β := Va.z) [.c (.v (.string s))] 0 [] [formF] rfl rfl ((Sat.start rfl).rd (fun _ h => by cases h) hf) ?_
  refine call_con [] (fun β w hs => runes_c w s) ?_
  rintro v Fs ⟨bx, rfl, rfl⟩
  refine range_rule (α := Rn) (ι := Unit) (κ := Unit) g rfl (cv := [.pointer (some ⟨bx, 0, none⟩)]) rfl (by kernel_rfl) 1 (Nat.le_refl 1)
    (fun pre _ => ∀ x ∈ pre, x.2 ≠ -1) (fun _ => [⟨0, ty_bool, [.v (.bool false)]⟩]) (fun _ => []) (fun _ => trivial)
    (fun e pre _ => e = .ret ∧ ∃ x ∈ pre, x.2 = -1) (fun _ => [⟨0, ty_bool, [.v (.bool false)]⟩]) (fun _ => []) (fun _ => trivial)
    [bkF bx ty_string [.string s]] [formF] [] ⟨rfl, trivial⟩ (fun g h => by cases h) () (fun x h => by cases h) (fun β w hs => ⟨β, Agr.refl _ _, hs⟩) (insR s.data.toList)
    (fun xs Fs' => xs = runesAt s.data.toList 0 ∧ Fs' = []) (fun pre Fs' => (∃ r, runesAt s.data.toList 0 = pre ++ r) ∧ Fs' = [])
    (fun l w f0 R J Jx hJ0 hJo hRo hY hm => (runes_it l w bx s f0 R J Jx hJ0 hJo hRo hY hl hm).mono fun _ Fs h => h) ?_ ?_ ?_
  · rintro ⟨⟩ pre x args X W S l bs pn pn' hbs hpre ⟨rfl, rfl, _⟩
    refine ⟨_, rfl, ?_⟩
    refine BIf.dec (fun h3 => ?_) (fun h3 => ?_)
    · have h30 : x.2 = -1 := h3
      exact ⟨(), ⟨rfl, x, by simp, h30⟩, Ent.mk' trivial rfl (fun β w hs => (hs.perm []).lower (n' := 1))⟩
    · have h30 : ¬ x.2 = -1 := h3
      refine ⟨(), ?_, Ent.mk' trivial rfl (fun β w hs => (hs.perm []).lower (n' := 1))⟩
      intro y hy
      rcases List.mem_append.1 hy with hy | hy
      · exact hpre y hy
      · obtain rfl := List.mem_singleton.1 hy; exact h30
  · rintro xs ⟨⟩ Fs hpre ⟨rfl, rfl⟩
    intro β w' hs
    refine (hs.keepB (List.nil_sublist _)).fin [] ⟨?_, rfl⟩
    rw [(valid_iff _).2 hpre]
    rfl
  · rintro e pre ⟨⟩ Fs ⟨rfl, x, hx, hxe⟩ ⟨⟨r, hr⟩, rfl⟩
    intro β w' hs
    refine (hs.keepB (List.nil_sublist _)).fin [] ⟨?_, rfl⟩
    have : validB s.data.toList = false := by
      cases h : validB s.data.toList with
      | false => rfl
      | true => exact absurd hxe ((valid_iff _).1 h x (by rw [hr]; exact List.mem_append.2 (.inl hx)))
    rw [this]
    rfl
def blanksL : List Sp := [(0xa0, 0xa0), (0x1680, 0x1680), (0x2000, 0x200a), (0x202f, 0x202f), (0x205f, 0x205f), (0x3000, 0x3000)]
def nothingL : List Sp := [(0xad, 0xad), (0x200b, 0x200d), (0x2060, 0x2060), (0xfe00, 0xfe0f), (0xfeff, 0xfeff)]
def barredL : List Sp := [(0, 0x1f), (0x7f, 0x9f), (0x2028, 0x2029), (0x202a, 0x202e), (0x2066, 0x2069), (0xe000, 0xf8ff), (0xf0000, 0x10ffff), (0xfff9, 0xfffd), (0xfdd0, 0xfdef)]
def spansF (g : Nat) (l : List Sp) : Fact := rdF 2 (some ⟨g, 0, none⟩) l.length (l.flatMap spanV)
def prep1 (z : Int) : List Int := if inSp z blanksL = true then [32] else if inSp z nothingL = true then [] else [z]
def prepAt (l : List Rn) : List Int := l.flatMap fun x => prep1 x.2
def insPr (t : List UInt8) (pre : List Int) (z : Int) (args : Array Value) (X : Fact) : Prop := args = #[.int .i32 z] ∧ X = noF ∧ ∃ r, prepAt (runesAt t 0) = pre ++ z :: r
def prepEnd (t : List UInt8) (J Jx : List Int → Fact → Prop) (Fs : List Fact) : Prop :=
  ∃ f Fs', Fs = f :: Fs' ∧ ((∃ xs, J xs f ∧ xs = prepAt (runesAt t 0) ∧ Fs' = []) ∨ (∃ pre, Jx pre f ∧ (∃ r, prepAt (runesAt t 0) = pre ++ r) ∧ Fs' = []))
abbrev OF := { f : Fact // f.own = true }
theorem prep_it (l : Nat) (w : World) (bx : Nat) (s : ByteArray) (f0 R : Fact) (J Jx : List Int → Fact → Prop) (hJ0 : J [] f0) (hJo : ∀ pre f, J pre f → f.own = true) (hRo : R.own = false) (hY : Yc Tryz.prog l J Jx R (insPr s.data.toList))
    (hl : s.size ≤ 1000000) (hm : Mem w (f0 :: R :: [bkF bx ty_string [.string s], formF, spansF 4 blanksL, spansF 5 nothingL])) :
    Con Tryz.prog n_name_prepared_1 #[.func (.yield l) #[] #[], .pointer (some ⟨bx, 0, none⟩)] w [f0, bkF bx ty_string [.string s]] (fun _ Fs => prepEnd s.data.toList J Jx Fs) := by
  have g := good_name_prepared_1 w (Un [f0, bkF bx ty_string [.string s]]) [bx]
  have hf0 := hJo _ _ hJ0
  have hs0 : Sat (cx_name_prepared_1 w (Un [f0, bkF bx ty_string [.string s]]) [bx]) (Va.of fun _ => bx) 1 [] (f0 :: R :: [bkF bx ty_string [.string s], formF, spansF 4 blanksL, spansF 5 nothingL]) w := by
    refine hm.sat rfl (fun f hf ho k hk => ?_) ⟨Nat.le_refl 1, fun i hi => by obtain rfl : i = 0 := Nat.lt_one_iff.1 hi; rfl⟩
    simp only [List.mem_cons, List.not_mem_nil, or_false] at hf
    rcases hf with rfl | rfl | rfl | rfl | rfl | rfl
    · exact ⟨_, by simp, hk⟩
    · rw [hRo] at ho; cases ho
    · exact ⟨_, by simp, hk⟩
    · cases ho
    · cases ho
    · cases ho
  have hs1 := hs0.toBk 2 rfl 0 Nat.zero_lt_one rfl
  refine con_of_sx (cx := cx_name_prepared_1 w (Un [f0, bkF bx ty_string [.string s]]) [bx]) g b_name_prepared_1 rfl rfl (β := Va.of fun _ => bx) [.c (.v (.func (.yield l) #[] #[])), .c (.p 0 0)] 1 _ _ rfl rfl hs1 ?_
  refine call_con [] (fun β w hs => runes_c w s) ?_
  rintro v Fs ⟨bx2, rfl, rfl⟩
  refine range_rule (α := Rn) (ι := OF) (κ := OF) g rfl (cv := [.pointer (some ⟨bx2, 0, none⟩)]) rfl (by kernel_rfl) 2 (Nat.le_refl 2)
    (fun pre i => J (prepAt pre) i.1) (fun _ => [⟨1, 280, [.v (.func (.yield l) #[] #[])]⟩]) (fun i => [i.1]) (fun i => ⟨i.2, trivial⟩)
    (fun e pre i => e = .ret ∧ ∃ p, (∃ r, prepAt pre = p ++ r) ∧ Jx p i.1) (fun _ => [⟨1, 280, [.v (.func (.yield l) #[] #[])]⟩]) (fun i => [i.1]) (fun i => ⟨i.2, trivial⟩)
    [bkF bx2 ty_string [.string s]] [formF] [R, spansF 4 blanksL, spansF 5 nothingL] ⟨rfl, trivial⟩ (fun g h => by
      simp only [List.mem_cons, List.not_mem_nil, or_false] at h
      rcases h with rfl | rfl | rfl
      · exact hRo
      · rfl
      · rfl) ⟨f0, hf0⟩ hJ0 (fun β w hs => ⟨β, Agr.refl _ _, ?_⟩) (insR s.data.toList)
    (fun xs Fs' => xs = runesAt s.data.toList 0 ∧ Fs' = []) (fun pre Fs' => (∃ r, runesAt s.data.toList 0 = pre ++ r) ∧ Fs' = [])
    (fun l w f0 R J Jx hJ0 hJo hRo hY hm => (runes_it l w bx2 s f0 R J Jx hJ0 hJo hRo hY hl hm).mono fun _ Fs h => h) ?_ ?_ ?_
  · exact (hs.keepB (List.Sublist.cons_cons _ (List.nil_sublist _))).perm [0, 3, 1, 2, 4, 5]
  · rintro ⟨f, hfo⟩ pre x args X W S l' bs pn pn' hbs hJ ⟨rfl, rfl, r0, hxr⟩
    simp only at hJ
    refine ⟨_, rfl, ?_⟩
    obtain ⟨b1, hb1⟩ : ∃ b1, inSp x.2 blanksL = b1 := ⟨_, rfl⟩
    obtain ⟨b2, hb2⟩ : ∃ b2, inSp x.2 nothingL = b2 := ⟨_, rfl⟩
    refine ⟨6, 6, 0, 6, 6, _, rfl, rfl, rfl, Nat.le_refl _, Nat.le_refl _, Nat.zero_le _, rfl, rfl, rfl, ?_⟩
    refine call_pu (v := .bool b1) (fun β w' hs => by
      have h := within_c w' x.2 (some ⟨4, 0, none⟩) blanksL 6 (hs.get 3 rfl) (by decide)
      rw [hb1] at h
      exact h) ?_
    have hsn : prepAt (pre ++ [x]) = prepAt pre ++ prep1 x.2 := by simp [prepAt]
    cases b1 with
    | true =>
      have hz : prep1 x.2 = [32] := by unfold prep1; rw [if_pos hb1]
      refine yield_ro (X := noF) (x := 32) hY 1 2 rfl hJ hfo rfl hRo (by decide) (fun β => ⟨rfl, rfl, prepAt r0, by rw [hxr]; simp [prepAt, hz]⟩) rfl (fun β w _ => ⟨trivial, fun k hk => hk.elim, fun k _ h => h.elim⟩) ?_ ?_
      · intro f2 hfo2 hJ2
        exact ⟨⟨f2, hfo2⟩, by show J (prepAt (pre ++ [x])) f2; rw [hsn, hz]; exact hJ2, Ent.mk' trivial rfl (fun β w hs => (hs.perm [0]).lower (n' := 2))⟩
      · intro f2 hfo2 hJ2
        exact ⟨⟨f2, hfo2⟩, ⟨rfl, prepAt pre ++ [32], ⟨[], by rw [hsn, hz]; simp⟩, hJ2⟩, Ent.mk' trivial rfl (fun β w hs => (hs.perm [0]).lower (n' := 2))⟩
    | false =>
      refine ⟨5, 5, 0, 5, 5, _, rfl, rfl, rfl, Nat.le_refl _, Nat.le_refl _, Nat.zero_le _, rfl, rfl, rfl, ?_⟩
      refine call_pu (v := .bool b2) (fun β w' hs => by
        have h := within_c w' x.2 (some ⟨5, 0, none⟩) nothingL 5 (hs.get 4 rfl) (by decide)
        rw [hb2] at h
        exact h) ?_
      cases b2 with
      | true =>
        have hz : prep1 x.2 = [] := by unfold prep1; rw [if_neg (by rw [hb1]; decide), if_pos hb2]
        exact ⟨⟨f, hfo⟩, by show J (prepAt (pre ++ [x])) f; rw [hsn, hz, List.append_nil]; exact hJ, Ent.mk' trivial rfl (fun β w hs => (hs.perm [1]).lower (n' := 2))⟩
      | false =>
        have hz : prep1 x.2 = [x.2] := by unfold prep1; rw [if_neg (by rw [hb1]; decide), if_neg (by rw [hb2]; decide)]
        refine yield_ro (X := noF) (x := x.2) hY 1 2 rfl hJ hfo rfl hRo (by decide) (fun β => ⟨rfl, rfl, prepAt r0, by rw [hxr]; simp [prepAt, hz]⟩) rfl (fun β w _ => ⟨trivial, fun k hk => hk.elim, fun k _ h => h.elim⟩) ?_ ?_
        · intro f2 hfo2 hJ2
          exact ⟨⟨f2, hfo2⟩, by show J (prepAt (pre ++ [x])) f2; rw [hsn, hz]; exact hJ2, Ent.mk' trivial rfl (fun β w hs => (hs.perm [0]).lower (n' := 2))⟩
        · intro f2 hfo2 hJ2
          exact ⟨⟨f2, hfo2⟩, ⟨rfl, prepAt pre ++ [x.2], ⟨[], by rw [hsn, hz]; simp⟩, hJ2⟩, Ent.mk' trivial rfl (fun β w hs => (hs.perm [0]).lower (n' := 2))⟩
  · rintro xs ⟨f, hfo⟩ Fs hJ ⟨rfl, rfl⟩
    intro β w' hs
    exact (hs.keepB (List.nil_sublist _)).fin [0] ⟨f, [], rfl, .inl ⟨_, hJ, rfl, rfl⟩⟩ rfl rfl rfl ⟨hfo, trivial⟩
  · rintro e pre ⟨f, hfo⟩ Fs ⟨rfl, p, ⟨r, hp⟩, hJx⟩ ⟨⟨r2, hr⟩, rfl⟩
    intro β w' hs
    refine (hs.keepB (List.nil_sublist _)).fin [0] ⟨f, [], rfl, .inr ⟨p, hJx, ⟨r ++ prepAt r2, ?_⟩, rfl⟩⟩ rfl rfl rfl ⟨hfo, trivial⟩
    rw [hr, prepAt, List.flatMap_append, ← prepAt, hp, List.append_assoc]
    rfl
theorem prepared_c (w : World) (s : ByteArray) : Con Tryz.prog n_name_prepared #[.string s] w [] (fun v Fs => ∃ bx, v = .func (.func n_name_prepared_1) #[] #[.pointer (some ⟨bx, 0, none⟩)] ∧ Fs = [bkF bx ty_string [.string s]]) := by
  refine con_of_sx (cx := cx_name_prepared w (Un [])) (good_name_prepared w (Un [])) b_name_prepared rfl rfl (β := Va.z) [.c (.v (.string s))] 0 [] [] rfl rfl (Sat.start rfl) ?_
  intro β w' hs
  exact hs.ofBk.fin [0] ⟨β 0, rfl, rfl⟩
def form0 : Nam.Fm := ⟨1, 0x80, 0, 0⟩
def pickF (r : Nat) (f g : Nam.Fm) : Nam.Fm := if g.least ≤ r then g else f
def formOf (r : Nat) : Nam.Fm := Nam.fms.foldl (pickF r) form0
def encGo (f : Nam.Fm) (r : Nat) : Nat → List UInt8
  | 0 => []
  | k + 1 => (if k = f.size - 1 then f.lead ||| UInt8.ofNat (r / 2 ^ (6 * k)) else 128 ||| (UInt8.ofNat (r / 2 ^ (6 * k)) &&& 63)) :: encGo f r k
def encL (r : Nat) : List UInt8 := encGo (formOf r) r (formOf r).size
theorem encGo_len (f : Nam.Fm) (r : Nat) : ∀ k, (encGo f r k).length = k
  | 0 => rfl
  | k + 1 => by simp [encGo, encGo_len f r k]
theorem fold_mem (r : Nat) : ∀ (l : List Nam.Fm) (f : Nam.Fm), f ∈ Nam.fms → (∀ g ∈ l, g ∈ Nam.fms) → l.foldl (pickF r) f ∈ Nam.fms
  | [], _, hf, _ => hf
  | g :: l, f, hf, h => by
    rw [List.foldl_cons]
    refine fold_mem r l _ ?_ (fun x hx => h x (List.mem_cons_of_mem _ hx))
    unfold pickF
    split
    · exact h g List.mem_cons_self
    · exact hf
theorem form0_mem : form0 ∈ Nam.fms := List.mem_cons_self
structure EnS where
  k : Nat
  acc : List UInt8
  A : Option Addr
  c : Nat
theorem append_c (w : World) (A : Option Addr) (l : List UInt8) (c r : Nat) (z : Int) (hz : z = (r : Int)) (hr31 : r ≤ 1114111) (hsg : Nam.sign r = true) (hr : Bs w A l) (hn : l.length ≤ 1000000000) (hf : Forms 6 w) :
    Con Tryz.prog n_name_Append #[.slice A l.length c, .int .i32 z] w [] fun v Fs => ∃ A' c', v = .slice A' (l ++ encL r).length c' ∧ (l ++ encL r).length ≤ c' ∧ c' ≤ maxLen ∧ Fs = [browF ty_uint8 A' (l ++ encL r) c'] := by
  have g := good_name_Append w (Un [])
  have hml := maxLen_eq
  refine con_of_sx (cx := cx_name_Append w (Un [])) g b_name_Append rfl rfl (β := Va.z) [.c (.v (.slice A l.length c)), .c (.v (.int .i32 z))] 0 [] [oldF w] rfl rfl (old_sat rfl) ?_
  refine call_pu (v := .bool true) (fun β w' hs => by
    have h := sign_c w' z r hz
    rw [hsg] at h
    exact h) ?_
  refine call_con [] (fun β w' hs => clone_c w' A l c (Rd.old hr (hs.get 0 rfl)) (by omega)) ?_
  rintro v Fs ⟨A1, c1, rfl, h1, h1m, rfl⟩
  have hcell : ∀ w', (oldF w).p w' → ∀ j u, formCells[j]? = some u → w'.cell? ((⟨6, 0, none⟩ : Addr).add j) = some u := by
    intro w' ho j u hu
    obtain ⟨ad, q, hc⟩ := (Forms.old hf ho).2 (by decide)
    cases q
    exact hc j u hu
  refine ⟨0, rfl, by decide, ?_⟩
  refine ⟨formV form0, rfl, fun β w' hs => ?_, ?_⟩
  · intro j u hu
    have hj : j < 4 := (List.getElem?_eq_some_iff.1 hu).1
    refine hcell w' (hs.get 1 rfl) j u ?_
    have : formCells[j]? = (formV form0)[j]? := by
      match j, hj with
      | 0, _ => rfl
      | 1, _ => rfl
      | 2, _ => rfl
      | 3, _ => rfl
    rw [this, hu]
  refine ⟨formCells, rfl, fun β w' hs => hcell w' (hs.get 1 rfl), ?_⟩
  refine loop_rule (ι := Nat) 1 (fun i => [(1, .c (.v (.int .i32 z))), (5, .c (.v (.slice A1 l.length c1))), (6, .c (.p 0 0)), (18, .agg (formCells.map SL.v)), (19, .c (.v (.int .i64 (i : Int))))]) (fun i => [⟨0, ty_name_form, (formV ((Nam.fms.take i).foldl (pickF r) form0)).map SL.v⟩]) (fun _ => [browF ty_uint8 A1 l c1, oldF w])
    (fun i => i ≤ 4) (fun i => 4 - i) 0 (Nat.zero_le _) (Ent.same ⟨rfl, rfl, rfl, rfl, rfl, trivial⟩ rfl) g ?_
  intro i hi
  refine BIf.dec (fun hlt => ?_) (fun hge => ?_)
  · have hlt0 : (i : Int) < 4 := hlt
    have hi4 : i < Nam.fms.length := by show i < 4; omega
    obtain ⟨f, hfi, hfm⟩ := at_lt hi4
    have hfold : (Nam.fms.take (i + 1)).foldl (pickF r) form0 = pickF r ((Nam.fms.take i).foldl (pickF r) form0) f := by
      rw [List.take_add_one, hfi, List.foldl_append]
      rfl
    refine ⟨i, (formV f).map SL.v, rfl, by omega, form_at hfi, ?_⟩
    refine BIf.dec (fun hls => ?_) (fun hls => ?_)
    · have hls1 : (f.least : Int) ≤ z := hls
      rw [pickF, if_pos (by omega)] at hfold
      refine ⟨((i + 1 : Nat) : Int), by rw [wrap_i64 (by omega) (by omega)]; rfl, ?_⟩
      refine ⟨i + 1, by omega, by omega, ?_⟩
      rw [hfold]
      exact Ent.mk' ⟨rfl, rfl, rfl, rfl, rfl, trivial⟩ rfl (fun β w hs => (hs.keepB (List.sublist_cons_self _ _)).lower)
    · have hls1 : ¬ (f.least : Int) ≤ z := hls
      rw [pickF, if_neg (by omega)] at hfold
      refine ⟨((i + 1 : Nat) : Int), by rw [wrap_i64 (by omega) (by omega)]; rfl, ?_⟩
      refine ⟨i + 1, by omega, by omega, ?_⟩
      rw [hfold]
      exact Ent.mk' ⟨rfl, rfl, rfl, rfl, rfl, trivial⟩ rfl (fun β w hs => (hs.keepB (List.sublist_cons_self _ _)).lower)
  · have hge0 : ¬ (i : Int) < 4 := hge
    obtain rfl : i = 4 := by omega
    have hfe : (Nam.fms.take 4).foldl (pickF r) form0 = formOf r := rfl
    rw [hfe]
    have hfs := form_size (fold_mem r Nam.fms form0 form0_mem (fun _ h => h))
    change 1 ≤ (formOf r).size ∧ (formOf r).size ≤ 4 ∧ _ at hfs
    unfold encL
    generalize formOf r = f at hfs ⊢
    refine ⟨(f.size : Int) - 1, wrap_i64 (by omega) (by omega), ?_⟩
    refine loop_rule (ι := EnS) 1 (fun i => [(1, .c (.v (.int .i32 z))), (5, .c (.v (.slice i.A i.acc.length i.c))), (6, .c (.p 0 0)), (9, .c (.v (.int .i64 ((i.k : Int) - 1))))]) (fun _ => [⟨0, ty_name_form, (formV f).map SL.v⟩]) (fun i => [browF ty_uint8 i.A i.acc i.c, oldF w])
      (fun i => i.acc ++ encGo f r i.k = l ++ encGo f r f.size ∧ i.k ≤ f.size ∧ i.acc.length ≤ i.c ∧ i.c ≤ maxLen ∧ i.acc.length + i.k = l.length + f.size) (fun i => i.k) ⟨f.size, l, A1, c1⟩ ⟨rfl, Nat.le_refl _, h1, h1m, rfl⟩ (Ent.same ⟨rfl, rfl, rfl, rfl, trivial⟩ rfl) g ?_
    rintro ⟨k, acc, A2, c2⟩ ⟨hinv, hk, hac, hcm, hlen⟩
    simp only at hinv hk hac hcm hlen
    simp only
    refine BIf.dec (fun hp => ?_) (fun hp => ?_)
    · have hp0 : (0 : Int) ≤ (k : Int) - 1 := hp
      obtain ⟨k', rfl⟩ : ∃ k', k = k' + 1 := ⟨k - 1, by omega⟩
      refine ⟨((6 * k' : Nat) : Int), by rw [wrap_i64 (by omega) (by omega)]; omega, ?_⟩
      refine ⟨by omega, ((r / 2 ^ (6 * k') : Nat) : Int), ?_, ?_⟩
      · have hmin : min ((6 * k' : Nat) : Int).toNat IntKind.i32.bits = 6 * k' := by show min (6 * k') 32 = _; omega
        rw [hmin, hz]
        exact shr_nat r (6 * k')
      refine ⟨(f.size : Int) - 1, wrap_i64 (by omega) (by omega), ?_⟩
      refine BIf.dec (fun he => ?_) (fun he => ?_)
      · have he0 : ((k' + 1 : Nat) : Int) - 1 = (f.size : Int) - 1 := he
        have henc : encGo f r (k' + 1) = (f.lead ||| UInt8.ofNat (r / 2 ^ (6 * k'))) :: encGo f r k' := by rw [encGo, if_pos (by omega)]
        refine ⟨_, wrap_u8b _, ?_⟩
        refine ⟨_, or8 f.lead (UInt8.ofNat (r / 2 ^ (6 * k'))), ?_⟩
        intro b0
        refine ⟨1, acc.length, acc.length + 1, acc.map byte, [f.lead ||| UInt8.ofNat (r / 2 ^ (6 * k'))].map byte, (acc ++ [f.lead ||| UInt8.ofNat (r / 2 ^ (6 * k'))]).map byte, rfl, fun β w hs => row_rd (hs.get 0 rfl), bytes_one _, rfl, List.map_append.symm, by rw [maxLen_eq]; omega, by show (acc.length + 1) * 1 ≤ _; omega, ?_⟩
        intro A' c' q1 q2 _
        refine ⟨(k' : Int) - 1, by rw [wrap_i64 (by omega) (by omega)]; omega, ?_⟩
        have hle : (acc ++ [f.lead ||| UInt8.ofNat (r / 2 ^ (6 * k'))]).length = acc.length + 1 := by simp
        refine ⟨⟨k', acc ++ [f.lead ||| UInt8.ofNat (r / 2 ^ (6 * k'))], A', c'⟩, ⟨by rw [← hinv, henc]; simp, by show k' ≤ f.size; omega, by show (acc ++ [f.lead ||| UInt8.ofNat (r / 2 ^ (6 * k'))]).length ≤ c'; omega, q2, by show (acc ++ [f.lead ||| UInt8.ofNat (r / 2 ^ (6 * k'))]).length + k' = _; omega⟩, by show k' < k' + 1; omega, ?_⟩
        simp only [browF, hle]
        exact Ent.mk' ⟨rfl, rfl, rfl, rfl, trivial⟩ rfl (fun β w hs => hs.weaken (List.Sublist.refl _) (List.sublist_cons_self _ _))
      · have he0 : ¬ ((k' + 1 : Nat) : Int) - 1 = (f.size : Int) - 1 := he
        have henc : encGo f r (k' + 1) = (128 ||| (UInt8.ofNat (r / 2 ^ (6 * k')) &&& 63)) :: encGo f r k' := by rw [encGo, if_neg (by omega)]
        refine ⟨_, wrap_u8b _, ?_⟩
        refine ⟨_, and8 (UInt8.ofNat (r / 2 ^ (6 * k'))) 63, ?_⟩
        refine ⟨_, or8 128 (UInt8.ofNat (r / 2 ^ (6 * k')) &&& 63), ?_⟩
        intro b0
        refine ⟨1, acc.length, acc.length + 1, acc.map byte, [128 ||| (UInt8.ofNat (r / 2 ^ (6 * k')) &&& 63)].map byte, (acc ++ [128 ||| (UInt8.ofNat (r / 2 ^ (6 * k')) &&& 63)]).map byte, rfl, fun β w hs => row_rd (hs.get 0 rfl), bytes_one _, rfl, List.map_append.symm, by rw [maxLen_eq]; omega, by show (acc.length + 1) * 1 ≤ _; omega, ?_⟩
        intro A' c' q1 q2 _
        refine ⟨(k' : Int) - 1, by rw [wrap_i64 (by omega) (by omega)]; omega, ?_⟩
        have hle : (acc ++ [128 ||| (UInt8.ofNat (r / 2 ^ (6 * k')) &&& 63)]).length = acc.length + 1 := by simp
        refine ⟨⟨k', acc ++ [128 ||| (UInt8.ofNat (r / 2 ^ (6 * k')) &&& 63)], A', c'⟩, ⟨by rw [← hinv, henc]; simp, by show k' ≤ f.size; omega, by show (acc ++ [128 ||| (UInt8.ofNat (r / 2 ^ (6 * k')) &&& 63)]).length ≤ c'; omega, q2, by show (acc ++ [128 ||| (UInt8.ofNat (r / 2 ^ (6 * k')) &&& 63)]).length + k' = _; omega⟩, by show k' < k' + 1; omega, ?_⟩
        simp only [browF, hle]
        exact Ent.mk' ⟨rfl, rfl, rfl, rfl, trivial⟩ rfl (fun β w hs => hs.weaken (List.Sublist.refl _) (List.sublist_cons_self _ _))
    · have hp0 : ¬ (0 : Int) ≤ (k : Int) - 1 := hp
      obtain rfl : k = 0 := by omega
      simp only [encGo, List.append_nil] at hinv
      intro β w' hs
      refine (hs.keepB (List.nil_sublist _)).fin [0] ⟨A2, c2, by rw [← hinv]; rfl, by rw [← hinv]; exact hac, hcm, by rw [← hinv]; rfl⟩
end Go.Proofs.YtnhckgipdoojeaaGreatDoor.Sx

namespace Go.Proofs.YtnhckgipdoojeaaGreatDoor.Sx
open Go
theorem decL_sign {s : List UInt8} {r : Nat} (h : (Nam.decL s).1 = some r) : Nam.sign r = true := by
  unfold Nam.decL at h
  split at h
  · rename_i f hf
    split at h
    · rename_i q hq
      obtain rfl := Option.some.inj h
      unfold Nam.tryF at hq
      split at hq
      · cases hq
      · split at hq
        · split at hq
          · rename_i hh
            obtain rfl := Option.some.inj hq
            exact hh.2
          · cases hq
        · cases hq
    · cases h
  · cases h
theorem runes_sign {r : Nat} : ∀ (k : Nat) (l : List UInt8), l.length ≤ k → some r ∈ Nam.runes l → Nam.sign r = true := by
  intro k
  induction k with
  | zero =>
    intro l h hm
    obtain rfl : l = [] := List.length_eq_zero_iff.1 (by omega)
    rw [Nam.runes_nil] at hm
    cases hm
  | succ k ih =>
    intro l h hm
    by_cases hl : l = []
    · subst hl
      rw [Nam.runes_nil] at hm
      cases hm
    · have h1 := Nam.decL_size hl
      rw [Nam.runes_cons hl] at hm
      rcases List.mem_cons.1 hm with hm | hm
      · exact decL_sign hm.symm
      · exact ih _ (by rw [List.length_drop]; omega) hm
def prepO (l : List (Option Nat)) : List Int := l.flatMap fun o => prep1 (runeI o)
theorem prepAt_runes (l : List UInt8) : prepAt (runesAt l 0) = prepO (Nam.runes l) := by
  have h := runesAt_vals l _ 0 (Nat.le_refl _)
  rw [List.drop_zero] at h
  have e1 : prepAt (runesAt l 0) = ((runesAt l 0).map (·.2)).flatMap prep1 := by rw [prepAt, List.flatMap_map]
  rw [e1, h, List.flatMap_map]
  rfl
theorem sign_le {r : Nat} (h : Nam.sign r = true) : r ≤ 1114111 := by
  unfold Nam.sign at h
  simp only [Bool.and_eq_true, decide_eq_true_eq] at h
  exact h.1
theorem prep_sign {l : List UInt8} (hv : validB l = true) {z : Int} (hz : z ∈ prepAt (runesAt l 0)) : ∃ r : Nat, z = (r : Int) ∧ Nam.sign r = true ∧ r ≤ 1114111 := by
  rw [prepAt_runes] at hz
  obtain ⟨o, ho, hz⟩ := List.mem_flatMap.1 hz
  cases o with
  | none =>
    have := List.all_eq_true.1 hv none ho
    cases this
  | some r =>
    have hs := runes_sign l.length l (Nat.le_refl _) ho
    unfold prep1 at hz
    split at hz
    · obtain rfl := List.mem_singleton.1 hz
      exact ⟨32, rfl, by decide, by decide⟩
    · split at hz
      · cases hz
      · obtain rfl := List.mem_singleton.1 hz
        exact ⟨r, rfl, hs, sign_le hs⟩
def badZ (z : Int) : Bool := inSp z barredL || decide (bits .and .i32 z 65534 = 65534)
def encZ (z : Int) : List UInt8 := encL z.toNat
def prepF (l : List UInt8) : List UInt8 × Int :=
  if validB l = true then if (prepAt (runesAt l 0)).any badZ = true then ([], 5) else ((prepAt (runesAt l 0)).flatMap encZ, 0) else ([], 4)
end Go.Proofs.YtnhckgipdoojeaaGreatDoor.Sx

namespace Go.Proofs.YtnhckgipdoojeaaGreatDoor.Sx
open Go
attribute [local irreducible] Calls
def mkS (l : List UInt8) : ByteArray := ⟨l.toArray⟩
theorem encZ_len (z : Int) : (encZ z).length ≤ 4 := by
  unfold encZ encL
  rw [encGo_len]
  have := form_size (fold_mem z.toNat Nam.fms form0 form0_mem (fun _ h => h))
  exact this.2.1
theorem prep1_len (z : Int) : (prep1 z).length ≤ 1 := by
  unfold prep1
  split
  · exact Nat.le_refl _
  · split
    · exact Nat.zero_le _
    · exact Nat.le_refl _
theorem runesAt_len (l : List UInt8) : ∀ (k i : Nat), l.length - i ≤ k → (runesAt l i).length ≤ l.length - i := by
  intro k
  induction k with
  | zero => intro i h; rw [runesAt_end (by omega)]; exact Nat.zero_le _
  | succ k ih =>
    intro i h
    by_cases hi : i < l.length
    · have h1 := Nam.decL_size (drop_ne hi)
      rw [runesAt_cons hi, List.length_cons]
      have := ih (i + (Nam.decL (l.drop i)).2) (by omega)
      omega
    · rw [runesAt_end hi]; exact Nat.zero_le _
theorem flat_le {α β : Type} (f : α → List β) (n : Nat) (h : ∀ x, (f x).length ≤ n) : ∀ l : List α, (l.flatMap f).length ≤ n * l.length
  | [] => by simp
  | x :: r => by
    rw [List.flatMap_cons, List.length_append, List.length_cons]
    have h1 := h x
    have h2 := flat_le f n h r
    rw [Nat.mul_succ]
    omega
theorem prepAt_len (l : List UInt8) : (prepAt (runesAt l 0)).length ≤ l.length := by
  have h1 := flat_le (fun x : Rn => prep1 x.2) 1 (fun x => prep1_len x.2) (runesAt l 0)
  have h2 := runesAt_len l _ 0 (Nat.le_refl _)
  unfold prepAt
  omega
structure PrS8 where
  out : List UInt8
  A : Option Addr
  c : Nat
theorem prepare_c (w0 : World) (s : ByteArray) (hl : s.size ≤ 100000) (hf : Forms 6 w0) (h5 : (spansF 4 blanksL).p w0) (h6 : (spansF 5 nothingL).p w0) (h4 : (spansF 0 barredL).p w0) :
    Pu Tryz.prog n_name_Prepare #[.string s] w0 (.tuple #[.string (mkS (prepF s.data.toList).1), .int .i64 (prepF s.data.toList).2]) := by
  have g := good_name_Prepare w0 (Un [])
  have hlen : s.data.toList.length = s.size := rfl
  have own2 : ∀ {f1 f2 f3 f4 : Fact}, f1.own = false → f2.own = false → f3.own = false → f4.own = false → ∀ g ∈ [f1, f2, f3, f4], g.own = false := by
    intro f1 f2 f3 f4 e1 e2 e3 e4 g hg
    simp only [List.mem_cons, List.not_mem_nil, or_false] at hg
    rcases hg with rfl | rfl | rfl | rfl <;> assumption
  have st : Sat (cx_name_Prepare w0 (Un [])) Va.z 0 [] [formF, formF, spansF 4 blanksL, spansF 5 nothingL, spansF 0 barredL] w0 := by
    have s1 : Sat (cx_name_Prepare w0 (Un [])) Va.z 0 [] [spansF 0 barredL] w0 := (Sat.start rfl).rd (fun _ h => by cases h) h4
    have s2 : Sat (cx_name_Prepare w0 (Un [])) Va.z 0 [] [spansF 5 nothingL, spansF 0 barredL] w0 := s1.rd (fun g hg => own2 (f1 := spansF 0 barredL) (f2 := noF) (f3 := noF) (f4 := noF) rfl rfl rfl rfl g (by obtain rfl := List.mem_singleton.1 hg; simp)) h6
    have s3 : Sat (cx_name_Prepare w0 (Un [])) Va.z 0 [] [spansF 4 blanksL, spansF 5 nothingL, spansF 0 barredL] w0 := s2.rd (fun g hg => own2 (f1 := spansF 5 nothingL) (f2 := spansF 0 barredL) (f3 := noF) (f4 := noF) rfl rfl rfl rfl g (by simp only [List.mem_cons, List.not_mem_nil, or_false] at hg ⊢; rcases hg with h | h <;> simp [h])) h5
    have s4 : Sat (cx_name_Prepare w0 (Un [])) Va.z 0 [] [formF, spansF 4 blanksL, spansF 5 nothingL, spansF 0 barredL] w0 := s3.rd (fun g hg => own2 (f1 := spansF 4 blanksL) (f2 := spansF 5 nothingL) (f3 := spansF 0 barredL) (f4 := noF) rfl rfl rfl rfl g (by simp only [List.mem_cons, List.not_mem_nil, or_false] at hg ⊢; rcases hg with h | h | h <;> simp [h])) hf
    exact s4.rd (own2 rfl rfl rfl rfl) hf
  refine con_of_sx (cx := cx_name_Prepare w0 (Un [])) g b_name_Prepare rfl rfl (β := Va.z) [.c (.v (.string s))] 0 [] _ rfl rfl st ?_
  obtain ⟨bv, hv⟩ : ∃ bv, validB s.data.toList = bv := ⟨_, rfl⟩
  refine call_pu (v := .bool bv) (fun β w hs => by
    have h := valid_c w s (by omega) (hs.get 0 rfl)
    rw [hv] at h
    exact h) ?_
  cases bv with
  | false =>
    intro β w' hs
    refine (hs.keepB (List.nil_sublist _)).fin [] ⟨?_, rfl⟩
    unfold prepF
    rw [hv]
    rfl
  | true =>
    refine call_con [] (fun β w hs => prepared_c w s) ?_
    rintro v Fs ⟨bx, rfl, rfl⟩
    obtain ⟨T, hT⟩ : ∃ T, prepAt (runesAt s.data.toList 0) = T := ⟨_, rfl⟩
    have hTl : T.length ≤ 100000 := by
      have := prepAt_len s.data.toList
      rw [hT] at this
      omega
    have hpr : prepF s.data.toList = if T.any badZ = true then ([], 5) else (T.flatMap encZ, 0) := by unfold prepF; rw [if_pos hv, hT]
    refine range_rule (α := Int) (ι := PrS8) (κ := Unit) g rfl (cv := [.pointer (some ⟨bx, 0, none⟩)]) rfl (by kernel_rfl) 3 (Nat.le_refl 3)
      (fun pre i => pre.any badZ = false ∧ i.out = pre.flatMap encZ) (fun i => [⟨2, ty_sl_uint8, [.v (.slice i.A i.out.length i.c)]⟩, ⟨1, ty_api_Errno, [.v (.int .i64 0)]⟩, ⟨0, ty_string, [.v (.string (mkS []))]⟩]) (fun i => [browF ty_uint8 i.A i.out i.c]) (fun i => ⟨rfl, trivial⟩)
      (fun e pre _ => e = .ret ∧ pre.any badZ = true) (fun _ => [⟨1, ty_api_Errno, [.v (.int .i64 5)]⟩, ⟨0, ty_string, [.v (.string (mkS []))]⟩]) (fun _ => []) (fun _ => trivial)
      [bkF bx ty_string [.string s]] [formF, spansF 4 blanksL, spansF 5 nothingL] [formF, spansF 0 barredL] ⟨rfl, trivial⟩ (fun g h => by
        simp only [List.mem_cons, List.not_mem_nil, or_false] at h
        rcases h with rfl | rfl <;> rfl) ⟨[], none, 0⟩ ⟨rfl, rfl⟩ (fun β w hs => ⟨β, Agr.refl _ _, ?_⟩) (insPr s.data.toList)
      (fun xs Fs' => xs = T ∧ Fs' = []) (fun pre Fs' => (∃ r, T = pre ++ r) ∧ Fs' = [])
      (fun l w f0 R J Jx hJ0 hJo hRo hY hm => (prep_it l w bx s f0 R J Jx hJ0 hJo hRo hY (by omega) hm).mono fun _ Fs h => by rw [← hT]; exact h) ?_ ?_ ?_
    · exact (hs.nilRow ty_uint8 1).perm [1, 2, 4, 5, 0, 3, 6]
    · rintro ⟨out, A, c⟩ pre z args X W S l' bs pn pn' hbs ⟨hno, hout⟩ ⟨rfl, rfl, r0, hzr⟩
      simp only at hno hout
      rw [hT] at hzr
      refine ⟨_, rfl, ?_⟩
      obtain ⟨b1, hb1⟩ : ∃ b1, inSp z barredL = b1 := ⟨_, rfl⟩
      refine ⟨9, 9, 0, 9, 9, _, rfl, rfl, rfl, Nat.le_refl _, Nat.le_refl _, Nat.zero_le _, rfl, rfl, rfl, ?_⟩
      refine call_pu (v := .bool b1) (fun β w' hs => by
        have h := within_c w' z (some ⟨0, 0, none⟩) barredL 9 (hs.get 3 rfl) (by decide)
        rw [hb1] at h
        exact h) ?_
      cases b1 with
      | true =>
        have hbz : badZ z = true := by unfold badZ; rw [hb1]; rfl
        exact ⟨(), ⟨rfl, by rw [List.any_append, List.any_cons, hbz]; simp⟩, Ent.mk' trivial rfl (fun β w hs => ((hs.keepB (List.sublist_cons_self _ _)).perm []).lower (n' := 3))⟩
      | false =>
        obtain ⟨y, hy⟩ : ∃ y, bits .and .i32 z 65534 = y := ⟨_, rfl⟩
        refine ⟨y, hy, ?_⟩
        refine BIf.dec (fun h3 => ?_) (fun h3 => ?_)
        · have h30 : y = 65534 := h3
          have hbz : badZ z = true := by unfold badZ; rw [hb1, hy, decide_eq_true h30]; rfl
          exact ⟨(), ⟨rfl, by rw [List.any_append, List.any_cons, hbz]; simp⟩, Ent.mk' trivial rfl (fun β w hs => ((hs.keepB (List.sublist_cons_self _ _)).perm []).lower (n' := 3))⟩
        · have h30 : ¬ y = 65534 := h3
          have hbz : badZ z = false := by unfold badZ; rw [hb1, hy, decide_eq_false h30]; rfl
          obtain ⟨r, hz, hsg, hr31⟩ := prep_sign hv (z := z) (by rw [hT, hzr]; simp)
          have hol : out.length ≤ 400000 := by
            have h8 := flat_le encZ 4 encZ_len pre
            have h9 : pre.length ≤ T.length := by rw [hzr, List.length_append]; omega
            rw [hout]
            omega
          refine call_con [] (fun β w' hs => append_c w' A out c r z hz hr31 hsg (row_rd (hs.get 1 rfl)) (by omega) (hs.get 2 rfl)) ?_
          rintro v Fs ⟨A', c', rfl, q1, q2, rfl⟩
          exact ⟨⟨out ++ encL r, A', c'⟩, ⟨by rw [List.any_append, hno, List.any_cons, hbz]; rfl, by rw [hout, List.flatMap_append]; simp [encZ, hz]⟩, Ent.mk' trivial rfl (fun β w hs => (hs.perm [0]).lower (n' := 3))⟩
    · rintro xs ⟨out, A, c⟩ Fs ⟨hno, hout⟩ ⟨rfl, rfl⟩
      simp only at hno hout
      rw [if_neg (by rw [hno]; decide)] at hpr
      refine ⟨out, fun β w hs => row_rd (hs.get 0 rfl), ?_⟩
      intro β w' hs
      refine (hs.keepB (List.nil_sublist _)).fin [] ⟨?_, rfl⟩
      rw [hpr, ← hout]
      rfl
    · rintro e pre ⟨⟩ Fs ⟨rfl, hbad⟩ ⟨⟨r, hr⟩, rfl⟩
      rw [if_pos (by rw [hr, List.any_append, hbad]; rfl)] at hpr
      intro β w' hs
      refine (hs.keepB (List.nil_sublist _)).fin [] ⟨?_, rfl⟩
      rw [hpr]
      rfl
theorem mkSo (l : List UInt8) : (mkS l).data.toList = l := by simp [mkS]
theorem writeStr_c (w : World) (b : Nat) (p : Value) (A : Option Addr) (l : List UInt8) (c : Nat) (x : List UInt8) (hp : p = .pointer none ∨ p = selfV b) (hl : l.length ≤ 100000000) (hx : x.length ≤ 100000000) (hm : Mem w (bldF b p A l c)) :
    Con Tryz.prog n_strings_Builder_WriteString #[selfV b, .string (mkS x)] w (bldF b p A l c) fun v Fs => v = .tuple #[.int .i64 (x.length : Int), .nilIface] ∧ ∃ A' c', Fs = bldF b (selfV b) A' (l ++ x) c' := by
  have g := good_strings_Builder_WriteString w (Un (bldF b p A l c))
  refine con_of_sx (cx := cx_strings_Builder_WriteString w (Un (bldF b p A l c))) g b_strings_Builder_WriteString rfl rfl (β := Va.z) [.c (.v (selfV b)), .c (.v (.string (mkS x)))] 0 [] _ rfl rfl (hm.sat0 rfl (fun f hf _ k hk => ⟨f, hf, hk⟩)) ?_
  refine call_con [0] (fun β w' hs => copyCheck_c w' b p _ hp (hs.get 0 rfl)) ?_
  rintro v Fs ⟨rfl, rfl⟩
  refine ⟨.slice A l.length c, fun β w' hs => by
    have hb : w'.heap[b]? = some (.cells #[selfV b, .slice A l.length c] ty_strings_Builder (0, 0)) := hs.get 0 rfl
    show w'.cell? ⟨b, 1, none⟩ = _
    rw [cell_of_row w' b 1 _ _ _ hb]; rfl, ?_⟩
  refine ⟨1, l.length, x.length, l.length + x.length, l.map byte, x.map byte, (l ++ x).map byte, rfl, ⟨rfl, rfl, by rw [mkSo]⟩, rfl, by simp, by rw [maxLen_eq]; omega, by show (l.length + x.length) * 1 ≤ _; omega, ?_⟩
  intro A' c' h1 h2 h3
  refine ⟨_, fun β w' hs => hs.bkSet 0 (o := 1) (us := [.slice A' (l.length + x.length) c']) rfl (Nat.le_refl 2) (fun u hu => by obtain rfl := List.mem_singleton.1 hu; rfl), ?_⟩
  intro β w' hs
  have e : (l ++ x).length = l.length + x.length := by simp
  refine hs.fin [0, 1] ⟨rfl, A', c', ?_⟩
  show [bkF b ty_strings_Builder [selfV b, .slice A' (l.length + x.length) c'], rowF ty_uint8 1 (.slice A' (l.length + x.length) c') (l.length + x.length) ((l ++ x).map byte)] = _
  rw [← e]
  rfl
theorem text0_c (w : World) (b : Nat) (p : Value) (c : Nat) (hm : Mem w [bkF b ty_strings_Builder [p, .slice none 0 c]]) :
    Con Tryz.prog n_strings_Builder_String #[selfV b] w [bkF b ty_strings_Builder [p, .slice none 0 c]] fun v Fs => v = .string (mkS []) ∧ Fs = [] := by
  have g := good_strings_Builder_String w (Un [bkF b ty_strings_Builder [p, .slice none 0 c]])
  refine con_of_sx (cx := cx_strings_Builder_String w (Un [bkF b ty_strings_Builder [p, .slice none 0 c]])) g b_strings_Builder_String rfl rfl (β := Va.z) [.c (.v (selfV b))] 0 [] _ rfl rfl (hm.sat0 rfl (fun f hf _ k hk => ⟨f, hf, hk⟩)) ?_
  refine draw_rule g p_strings_Builder_String_1 (by kernel_rfl) [] [bkF b ty_strings_Builder [p, .slice none 0 c]] Sub.refl ?_
  have hcell : ∀ (cx : Cx) (n : Nat) (β : Va) (w' : World), Sat cx β n [] [bkF b ty_strings_Builder [p, .slice none 0 c]] w' → w'.cell? ⟨b, 1, none⟩ = some (.slice none 0 c) := fun cx n β w' hs => by
    have hb : w'.heap[b]? = some (.cells #[p, .slice none 0 c] ty_strings_Builder (0, 0)) := hs.get 0 rfl
    rw [cell_of_row w' b 1 _ _ _ hb]; rfl
  refine ⟨.slice none 0 c, hcell _ _, ?_⟩
  refine ⟨.slice none 0 c, hcell _ _, ?_⟩
  refine ⟨[], _, .c (.v (.pointer none)), fun β w' ty hs => ⟨w', ?_, hs⟩, trivial, Sub.refl, ?_⟩
  · have := Lib.run_unsafeSliceData_nil (P := Tryz.prog) (w := w') #[ty_sl_uint8] ty 0 c
    simp only [builtin, Sem.run_bind]
    erw [this]
    rfl
  refine ⟨[], [bkF b ty_strings_Builder [p, .slice none 0 c]], .c (.v (.string (mkS []))), fun β w' ty hs => ⟨w', ?_, hs⟩, trivial, Sub.refl, ?_⟩
  · have := Lib.run_unsafeString_none (P := Tryz.prog) (w := w') ty_ptr_uint8 3 ty none
    simp only [builtin, Sem.run_bind]
    erw [this]
    rfl
  intro β w' hs
  exact (hs.keepB (List.nil_sublist _)).fin [] ⟨rfl, rfl⟩
def escB (x : UInt8) : List UInt8 := if x = 44 then [61, 50, 67] else if x = 61 then [61, 51, 68] else [x]
def escL (l : List UInt8) : List UInt8 := l.flatMap escB
theorem escB_len (x : UInt8) : 1 ≤ (escB x).length ∧ (escB x).length ≤ 3 := by
  unfold escB
  split
  · decide
  · split
    · decide
    · exact ⟨Nat.le_refl _, Nat.le_add_left 1 2⟩
theorem escL_len (l : List UInt8) : l.length ≤ (escL l).length ∧ (escL l).length ≤ 3 * l.length := by
  induction l with
  | nil => exact ⟨Nat.le_refl _, Nat.le_refl _⟩
  | cons x r ih =>
    have := escB_len x
    simp only [escL, List.flatMap_cons, List.length_append, List.length_cons] at ih ⊢
    omega
theorem escL_snoc (l : List UInt8) (x : UInt8) : escL (l ++ [x]) = escL l ++ escB x := by simp [escL]
set_option maxHeartbeats 1000000 in
theorem escape_c (w : World) (s : List UInt8) (hl : s.length ≤ 100000) : Pu Tryz.prog n_name_Escape #[.string (mkS s)] w (.string (mkS (escL s))) := by
  have g := good_name_Escape w (Un [])
  have hsz : (mkS s).size = s.length := by simp [mkS, ByteArray.size]
  refine con_of_sx (cx := cx_name_Escape w (Un [])) g b_name_Escape rfl rfl (β := Va.z) [.c (.v (.string (mkS s)))] 0 [] [] rfl rfl (Sat.start rfl) ?_
  refine reify_rule g 0 (fun _ => [.pointer none, .slice none 0 0]) rfl rfl (fun _ => rfl) (fun b => ?_)
  refine loop_rule 1 (fun i : HxS => [(0, .c (.v (.string (mkS s)))), (6, .c (.v (.int .i64 (mkS s).size))), (7, .c (.v (.int .i64 i.k))), (3, .c (.v (selfV b)))]) (fun _ => []) (fun i => bldF b i.p i.A (escL (s.take i.k)) i.c)
    (fun i => i.k ≤ s.length ∧ (i.p = .pointer none ∨ i.p = selfV b) ∧ (i.k = 0 → i.A = none)) (fun i => s.length - i.k) ⟨0, .pointer none, none, 0⟩ ⟨Nat.zero_le _, .inl rfl, fun _ => rfl⟩ (Ent.mk' ⟨rfl, rfl, rfl, rfl, trivial⟩ rfl ?_) g ?_
  · intro β w' hs
    exact (hs.nilRow ty_uint8 1).perm [1, 0]
  rintro ⟨k, p, A1, c1⟩ ⟨hk, hp, hA0⟩
  simp only at hk hp hA0
  have hx0 := escL_len (s.take k)
  have htl : (s.take k).length ≤ s.length := by simp; omega
  refine BIf.dec (fun hlt => ?_) (fun hge => ?_)
  · have hlt : k < s.length := by have h0 : (k : Int) < (mkS s).size := hlt; omega
    obtain ⟨x, hx, hxm⟩ := at_lt (l := s) (k := k) hlt
    have hxs := escB_len x
    have hsn : escL (s.take (k + 1)) = escL (s.take k) ++ escB x := by rw [List.take_add_one, hx]; exact escL_snoc _ _
    refine ⟨k, x, rfl, hx, ?_⟩
    refine BIf.dec (fun h44 => ?_) (fun h44 => ?_)
    · have e : escB x = [61, 50, 67] := if_pos (by have h0 : (x.toNat : Int) = 44 := h44; exact UInt8.toNat_inj.1 (by show x.toNat = 44; omega))
      refine call_con [0, 1] (fun β w' hs => writeStr_c w' b p A1 (escL (s.take k)) c1 [61, 50, 67] hp (by omega) (by decide) (hs.mem.take (js := [0, 1]) rfl)) ?_
      rintro v Fs ⟨rfl, A2, c2, rfl⟩
      refine ⟨((k + 1 : Nat) : Int), by rw [wrap_i64 (by omega) (by omega)]; rfl, ?_⟩
      refine ⟨⟨k + 1, selfV b, A2, c2⟩, ⟨hlt, .inr rfl, fun h => by cases h⟩, by show s.length - (k + 1) < s.length - k; omega, Ent.mk' ⟨rfl, rfl, rfl, rfl, trivial⟩ rfl (fun β w' hs => ?_)⟩
      show Sat _ _ _ _ (bldF b (selfV b) A2 (escL (s.take (k + 1))) c2) _
      rw [hsn, e]
      exact hs
    have n44 : ¬ x = 44 := fun h => h44 (by rw [h]; rfl)
    refine BIf.dec (fun h61 => ?_) (fun h61 => ?_)
    · have e : escB x = [61, 51, 68] := by
        unfold escB
        rw [if_neg n44]
        exact if_pos (by have h0 : (x.toNat : Int) = 61 := h61; exact UInt8.toNat_inj.1 (by show x.toNat = 61; omega))
      refine call_con [0, 1] (fun β w' hs => writeStr_c w' b p A1 (escL (s.take k)) c1 [61, 51, 68] hp (by omega) (by decide) (hs.mem.take (js := [0, 1]) rfl)) ?_
      rintro v Fs ⟨rfl, A2, c2, rfl⟩
      refine ⟨((k + 1 : Nat) : Int), by rw [wrap_i64 (by omega) (by omega)]; rfl, ?_⟩
      refine ⟨⟨k + 1, selfV b, A2, c2⟩, ⟨hlt, .inr rfl, fun h => by cases h⟩, by show s.length - (k + 1) < s.length - k; omega, Ent.mk' ⟨rfl, rfl, rfl, rfl, trivial⟩ rfl (fun β w' hs => ?_)⟩
      show Sat _ _ _ _ (bldF b (selfV b) A2 (escL (s.take (k + 1))) c2) _
      rw [hsn, e]
      exact hs
    have e : escB x = [x] := by
      unfold escB
      rw [if_neg n44]
      exact if_neg (fun h => h61 (by rw [h]; rfl))
    refine ⟨k, x, rfl, hx, ?_⟩
    refine call_con [0, 1] (fun β w' hs => writeByte_c w' b p A1 (escL (s.take k)) c1 x hp (by omega) (hs.mem.take (js := [0, 1]) rfl)) ?_
    rintro v Fs ⟨rfl, A2, c2, rfl⟩
    refine ⟨((k + 1 : Nat) : Int), by rw [wrap_i64 (by omega) (by omega)]; rfl, ?_⟩
    refine ⟨⟨k + 1, selfV b, A2, c2⟩, ⟨hlt, .inr rfl, fun h => by cases h⟩, by show s.length - (k + 1) < s.length - k; omega, Ent.mk' ⟨rfl, rfl, rfl, rfl, trivial⟩ rfl (fun β w' hs => ?_)⟩
    show Sat _ _ _ _ (bldF b (selfV b) A2 (escL (s.take (k + 1))) c2) _
    rw [hsn, e]
    exact hs
  · have hkl : k = s.length := by have h0 : ¬ (k : Int) < (mkS s).size := hge; omega
    subst hkl
    rw [List.take_length] at hx0 ⊢
    by_cases hs0 : s = []
    · subst hs0
      obtain rfl := hA0 rfl
      refine call_con [0] (fun β w' hs => text0_c w' b p c1 (hs.mem.take (js := [0]) rfl)) ?_
      rintro v Fs ⟨rfl, rfl⟩
      intro β w' hs
      exact (hs.keepB (List.nil_sublist _)).fin [] ⟨rfl, rfl⟩
    · have h0 := List.length_pos_iff.2 hs0
      refine call_con [0, 1] (fun β w' hs => text_c w' b p A1 (escL s) c1 (fun h => by rw [h] at hx0; exact absurd hx0.1 (by simp; omega)) (hs.mem.take (js := [0, 1]) rfl)) ?_
      rintro v Fs ⟨rfl, rfl⟩
      intro β w' hs
      exact (hs.keepB (List.nil_sublist _)).fin [] ⟨rfl, rfl⟩
def sizF (l : List UInt8) (most : Nat) : List UInt8 × Int :=
  if (prepF l).2 = 0 then if (prepF l).1 = [] then ([], 2) else if most < (prepF l).1.length then ([], 3) else ((prepF l).1, 0) else ([], (prepF l).2)
theorem mkS_nil {p : List UInt8} : mkS p = mkS [] ↔ p = [] := by
  constructor
  · intro h
    have := congrArg (fun s : ByteArray => s.data.toList) h
    simpa [mkS] using this
  · rintro rfl; rfl
theorem sized_c (w : World) (s : ByteArray) (most : Nat) (hmost : most ≤ 1000000) (hl : s.size ≤ 100000) (hf : Forms 6 w) (h5 : (spansF 4 blanksL).p w) (h6 : (spansF 5 nothingL).p w) (h4 : (spansF 0 barredL).p w) :
    Pu Tryz.prog n_name_sized #[.string s, .int .i64 (most : Int)] w (.tuple #[.string (mkS (sizF s.data.toList most).1), .int .i64 (sizF s.data.toList most).2]) := by
  have g := good_name_sized w (Un [])
  refine con_of_sx (cx := cx_name_sized w (Un [])) g b_name_sized rfl rfl (β := Va.z) [.c (.v (.string s)), .c (.v (.int .i64 (most : Int)))] 0 [] [oldF w] rfl rfl (old_sat rfl) ?_
  obtain ⟨p, e, hpe⟩ : ∃ p e, prepF s.data.toList = (p, e) := ⟨_, _, rfl⟩
  have hz : sizF s.data.toList most = if e = 0 then if p = [] then ([], 2) else if most < p.length then ([], 3) else (p, 0) else ([], e) := by unfold sizF; rw [hpe]
  refine call_pu (v := .tuple #[.string (mkS p), .int .i64 e]) (fun β w' hs => by
    have h := prepare_c w' s hl (Forms.old hf (hs.get 0 rfl)) (Rd.old h5 (hs.get 0 rfl)) (Rd.old h6 (hs.get 0 rfl)) (Rd.old h4 (hs.get 0 rfl))
    rw [hpe] at h
    exact h) ?_
  have fin : ∀ (q : List UInt8) (d : Int), sizF s.data.toList most = (q, d) → ∀ {n : Nat} {H : List Bk} {F : List Fact} (β : Va) (w' : World), Sat (cx_name_sized w (Un [])) β n H F w' → Fin w [] (fun u Fs => u = .tuple #[.string (mkS (sizF s.data.toList most).1), .int .i64 (sizF s.data.toList most).2] ∧ Fs = []) (.tuple #[.string (mkS q), .int .i64 d]) w' := by
    intro q d h n H F β w' hs
    rw [h]
    exact (hs.keepB (List.nil_sublist _)).fin [] ⟨rfl, rfl⟩
  refine BIf.not (BIf.dec (fun he => ?_) (fun he => ?_))
  · have he0 : e = 0 := he
    rw [if_pos he0] at hz
    refine BIf.dec (p := mkS p = mkS []) (fun hp => ?_) (fun hp => ?_)
    · rw [if_pos (mkS_nil.1 hp)] at hz
      exact fin [] 2 hz
    · rw [if_neg (fun q => hp (mkS_nil.2 q))] at hz
      have hsz : (mkS p).size = p.length := by simp [mkS, ByteArray.size]
      refine BIf.dec (fun hm => ?_) (fun hm => ?_)
      · have hm0 : (most : Int) < ((mkS p).size : Int) := hm
        rw [hsz] at hm0
        rw [if_pos (by omega)] at hz
        exact fin [] 3 hz
      · have hm0 : ¬ (most : Int) < ((mkS p).size : Int) := hm
        rw [hsz] at hm0
        rw [if_neg (by omega)] at hz
        rw [he0]
        exact fin p 0 hz
  · have he0 : ¬ e = 0 := he
    rw [if_neg he0] at hz
    exact fin [] e hz
theorem name_c (w : World) (s : ByteArray) (hl : s.size ≤ 100000) (hf : Forms 6 w) (h5 : (spansF 4 blanksL).p w) (h6 : (spansF 5 nothingL).p w) (h4 : (spansF 0 barredL).p w) :
    Pu Tryz.prog n_name_Name #[.string s] w (.tuple #[.string (mkS (sizF s.data.toList 32).1), .int .i64 (sizF s.data.toList 32).2]) := by
  have g := good_name_Name w (Un [])
  refine con_of_sx (cx := cx_name_Name w (Un [])) g b_name_Name rfl rfl (β := Va.z) [.c (.v (.string s))] 0 [] [oldF w] rfl rfl (old_sat rfl) ?_
  refine call_pu (fun β w' hs => sized_c w' s 32 (by decide) hl (Forms.old hf (hs.get 0 rfl)) (Rd.old h5 (hs.get 0 rfl)) (Rd.old h6 (hs.get 0 rfl)) (Rd.old h4 (hs.get 0 rfl))) ?_
  intro β w' hs
  exact hs.fin [] ⟨rfl, rfl⟩
def okc (x : UInt8) : Bool := decide ((97 ≤ x.toNat ∧ x.toNat ≤ 122) ∨ (48 ≤ x.toNat ∧ x.toNat ≤ 57) ∨ x.toNat = 45 ∨ x.toNat = 95)
def plainF (l : List UInt8) : Bool := l.all okc && (decide (l ≠ []) && decide (l.length ≤ 32))
set_option maxHeartbeats 1000000 in
theorem plain_c (w : World) (s : ByteArray) (hl : s.size ≤ 100000) : Pu Tryz.prog n_name_Plain #[.string s] w (.bool (plainF s.data.toList)) := by
  have g := good_name_Plain w (Un [])
  have hlen : s.data.toList.length = s.size := rfl
  refine con_of_sx (cx := cx_name_Plain w (Un [])) g b_name_Plain rfl rfl (β := Va.z) [.c (.v (.string s))] 0 [] [] rfl rfl (Sat.start rfl) ?_
  intro b c hc _
  refine loop_rule 0 (fun k : Nat => [(0, .c (.v (.string s))), (6, .c (.v (.slice (some ⟨b, 0, none⟩) s.size c))), (7, .c (.v (.int .i64 s.size))), (8, .c (.v (.int .i64 (k : Int))))]) (fun _ => []) (fun _ => [rdoF 1 (some ⟨b, 0, none⟩) s.size (s.data.toList.map byte)])
    (fun k => k ≤ s.size ∧ (s.data.toList.take k).all okc = true) (fun k => s.size - k) 0 ⟨Nat.zero_le _, rfl⟩ (Ent.same ⟨rfl, rfl, rfl, rfl, trivial⟩ rfl) g ?_
  rintro k ⟨hk, hall⟩
  refine BIf.dec (fun hlt => ?_) (fun hge => ?_)
  · have hlt0 : (k : Int) < s.size := hlt
    have hkl : k < s.size := by omega
    obtain ⟨x, hx, hxm⟩ := at_lt (l := s.data.toList) (k := k) (by omega)
    obtain ⟨z, hz⟩ : ∃ z : Int, (x.toNat : Int) = z := ⟨_, rfl⟩
    have hsn : okc x = true → (s.data.toList.take (k + 1)).all okc = true := fun h => by rw [List.take_add_one, hx, List.all_append, hall]; simp [h]
    have bad : okc x = false → ∀ {n : Nat} {H : List Bk} {F : List Fact} (β : Va) (w' : World), Sat (cx_name_Plain w (Un [])) β n H F w' → Fin w [] (fun u Fs => u = .bool (plainF s.data.toList) ∧ Fs = []) (.bool false) w' := by
      intro h n H F β w' hs
      refine (hs.keepB (List.nil_sublist _)).fin [] ⟨?_, rfl⟩
      have : s.data.toList.all okc = false := by
        rw [List.all_eq_false]
        exact ⟨x, hxm, by rw [h]; decide⟩
      unfold plainF
      rw [this]
      rfl
    refine ⟨⟨b, 0, none⟩, k, rfl, rfl, hkl, .int .u8 z, fun β w' hs => by rw [← hz]; exact Rd.cell1 (u := byte x) (hs.get 0 rfl) (by rw [List.getElem?_map, hx]; rfl), ?_⟩
    conv => whnf
    generalize h1 : decide ((97 : Int) ≤ z) = b1
    cases b1 with
    | true =>
      conv => whnf
      generalize h2 : decide (z ≤ (122 : Int)) = b2
      cases b2 with
      | true =>
        refine ⟨((k + 1 : Nat) : Int), by rw [wrap_i64 (by omega) (by omega)]; rfl, ?_⟩
        exact ⟨k + 1, ⟨hkl, hsn (by simp only [decide_eq_true_eq, decide_eq_false_iff_not] at *; simp only [okc, decide_eq_true_eq]; omega)⟩, by omega, Ent.same ⟨rfl, rfl, rfl, rfl, trivial⟩ rfl⟩
      | false =>
        conv => whnf
        generalize h3 : decide ((48 : Int) ≤ z) = b3
        cases b3 with
        | true =>
          conv => whnf
          generalize h4 : decide (z ≤ (57 : Int)) = b4
          cases b4 with
          | true =>
            refine ⟨((k + 1 : Nat) : Int), by rw [wrap_i64 (by omega) (by omega)]; rfl, ?_⟩
            exact ⟨k + 1, ⟨hkl, hsn (by simp only [decide_eq_true_eq, decide_eq_false_iff_not] at *; simp only [okc, decide_eq_true_eq]; omega)⟩, by omega, Ent.same ⟨rfl, rfl, rfl, rfl, trivial⟩ rfl⟩
          | false =>
            conv => whnf
            generalize h5 : decide (z = (45 : Int)) = b5
            cases b5 with
            | true =>
              refine ⟨((k + 1 : Nat) : Int), by rw [wrap_i64 (by omega) (by omega)]; rfl, ?_⟩
              exact ⟨k + 1, ⟨hkl, hsn (by simp only [decide_eq_true_eq, decide_eq_false_iff_not] at *; simp only [okc, decide_eq_true_eq]; omega)⟩, by omega, Ent.same ⟨rfl, rfl, rfl, rfl, trivial⟩ rfl⟩
            | false =>
              conv => whnf
              generalize h6 : decide (z = (95 : Int)) = b6
              cases b6 with
              | true =>
                refine ⟨((k + 1 : Nat) : Int), by rw [wrap_i64 (by omega) (by omega)]; rfl, ?_⟩
                exact ⟨k + 1, ⟨hkl, hsn (by simp only [decide_eq_true_eq, decide_eq_false_iff_not] at *; simp only [okc, decide_eq_true_eq]; omega)⟩, by omega, Ent.same ⟨rfl, rfl, rfl, rfl, trivial⟩ rfl⟩
              | false =>
                exact bad (by simp only [decide_eq_true_eq, decide_eq_false_iff_not] at *; simp only [okc, decide_eq_false_iff_not]; omega)
        | false =>
          conv => whnf
          generalize h5 : decide (z = (45 : Int)) = b5
          cases b5 with
          | true =>
            refine ⟨((k + 1 : Nat) : Int), by rw [wrap_i64 (by omega) (by omega)]; rfl, ?_⟩
            exact ⟨k + 1, ⟨hkl, hsn (by simp only [decide_eq_true_eq, decide_eq_false_iff_not] at *; simp only [okc, decide_eq_true_eq]; omega)⟩, by omega, Ent.same ⟨rfl, rfl, rfl, rfl, trivial⟩ rfl⟩
          | false =>
            conv => whnf
            generalize h6 : decide (z = (95 : Int)) = b6
            cases b6 with
            | true =>
              refine ⟨((k + 1 : Nat) : Int), by rw [wrap_i64 (by omega) (by omega)]; rfl, ?_⟩
              exact ⟨k + 1, ⟨hkl, hsn (by simp only [decide_eq_true_eq, decide_eq_false_iff_not] at *; simp only [okc, decide_eq_true_eq]; omega)⟩, by omega, Ent.same ⟨rfl, rfl, rfl, rfl, trivial⟩ rfl⟩
            | false =>
              exact bad (by simp only [decide_eq_true_eq, decide_eq_false_iff_not] at *; simp only [okc, decide_eq_false_iff_not]; omega)
    | false =>
      conv => whnf
      generalize h3 : decide ((48 : Int) ≤ z) = b3
      cases b3 with
      | true =>
        conv => whnf
        generalize h4 : decide (z ≤ (57 : Int)) = b4
        cases b4 with
        | true =>
          refine ⟨((k + 1 : Nat) : Int), by rw [wrap_i64 (by omega) (by omega)]; rfl, ?_⟩
          exact ⟨k + 1, ⟨hkl, hsn (by simp only [decide_eq_true_eq, decide_eq_false_iff_not] at *; simp only [okc, decide_eq_true_eq]; omega)⟩, by omega, Ent.same ⟨rfl, rfl, rfl, rfl, trivial⟩ rfl⟩
        | false =>
          conv => whnf
          generalize h5 : decide (z = (45 : Int)) = b5
          cases b5 with
          | true =>
            refine ⟨((k + 1 : Nat) : Int), by rw [wrap_i64 (by omega) (by omega)]; rfl, ?_⟩
            exact ⟨k + 1, ⟨hkl, hsn (by simp only [decide_eq_true_eq, decide_eq_false_iff_not] at *; simp only [okc, decide_eq_true_eq]; omega)⟩, by omega, Ent.same ⟨rfl, rfl, rfl, rfl, trivial⟩ rfl⟩
          | false =>
            conv => whnf
            generalize h6 : decide (z = (95 : Int)) = b6
            cases b6 with
            | true =>
              refine ⟨((k + 1 : Nat) : Int), by rw [wrap_i64 (by omega) (by omega)]; rfl, ?_⟩
              exact ⟨k + 1, ⟨hkl, hsn (by simp only [decide_eq_true_eq, decide_eq_false_iff_not] at *; simp only [okc, decide_eq_true_eq]; omega)⟩, by omega, Ent.same ⟨rfl, rfl, rfl, rfl, trivial⟩ rfl⟩
            | false =>
              exact bad (by simp only [decide_eq_true_eq, decide_eq_false_iff_not] at *; simp only [okc, decide_eq_false_iff_not]; omega)
      | false =>
        conv => whnf
        generalize h5 : decide (z = (45 : Int)) = b5
        cases b5 with
        | true =>
          refine ⟨((k + 1 : Nat) : Int), by rw [wrap_i64 (by omega) (by omega)]; rfl, ?_⟩
          exact ⟨k + 1, ⟨hkl, hsn (by simp only [decide_eq_true_eq, decide_eq_false_iff_not] at *; simp only [okc, decide_eq_true_eq]; omega)⟩, by omega, Ent.same ⟨rfl, rfl, rfl, rfl, trivial⟩ rfl⟩
        | false =>
          conv => whnf
          generalize h6 : decide (z = (95 : Int)) = b6
          cases b6 with
          | true =>
            refine ⟨((k + 1 : Nat) : Int), by rw [wrap_i64 (by omega) (by omega)]; rfl, ?_⟩
            exact ⟨k + 1, ⟨hkl, hsn (by simp only [decide_eq_true_eq, decide_eq_false_iff_not] at *; simp only [okc, decide_eq_true_eq]; omega)⟩, by omega, Ent.same ⟨rfl, rfl, rfl, rfl, trivial⟩ rfl⟩
          | false =>
            exact bad (by simp only [decide_eq_true_eq, decide_eq_false_iff_not] at *; simp only [okc, decide_eq_false_iff_not]; omega)
  · have hge0 : ¬ (k : Int) < s.size := hge
    obtain rfl : k = s.size := by omega
    rw [← hlen, List.take_length] at hall
    have hpl : plainF s.data.toList = (decide (s.data.toList ≠ []) && decide (s.data.toList.length ≤ 32)) := by unfold plainF; rw [hall, Bool.true_and]
    refine BIf.not (BIf.dec (p := s = mkS []) (fun he => ?_) (fun he => ?_))
    · intro β w' hs
      refine (hs.keepB (List.nil_sublist _)).fin [] ⟨?_, rfl⟩
      rw [hpl, he]
      rfl
    · have hne : s.data.toList ≠ [] := fun q => he (by
        have : s = mkS s.data.toList := by cases s; rfl
        rw [this, q])
      intro β w' hs
      refine (hs.keepB (List.nil_sublist _)).fin [] ⟨?_, rfl⟩
      rw [hpl, decide_eq_true hne, Bool.true_and, hlen]
      show Value.bool (decide ((s.size : Int) ≤ 32)) = _
      congr 1
      exact decide_eq_decide.2 (by omega)
def nameA (s : ByteArray) : ByteArray × Int := (mkS (sizF s.data.toList 32).1, (sizF s.data.toList 32).2)
structure NamT (w : World) : Prop where
  f : Forms 6 w
  s5 : (spansF 4 blanksL).p w
  s6 : (spansF 5 nothingL).p w
  s4 : (spansF 0 barredL).p w
theorem NamT.old {W w : World} (h : NamT W) (ho : (oldF W).p w) : NamT w := ⟨Forms.old h.f ho, Rd.old h.s5 ho, Rd.old h.s6 ho, Rd.old h.s4 ho⟩
theorem NamT.sat {cx : Cx} {β : Va} {n : Nat} {H : List Bk} {F : List Fact} {w : World} (hs : Sat cx β n H F w) (j : Nat) {W : World} (hj : nth F j = some (oldF W)) (h : NamT W) : NamT w := h.old (hs.get j hj)
theorem nameA_c (w : World) (s : ByteArray) (hl : s.size ≤ 100000) (hn : NamT w) : Pu Tryz.prog n_name_Name #[.string s] w (.tuple #[.string (nameA s).1, .int .i64 (nameA s).2]) :=
  name_c w s hl hn.f hn.s5 hn.s6 hn.s4
def namF : Fact := readF [formF, spansF 4 blanksL, spansF 5 nothingL, spansF 0 barredL]
theorem namF_T {w : World} (h : namF.p w) : NamT w := ⟨h formF (by simp), h (spansF 4 blanksL) (by simp), h (spansF 5 nothingL) (by simp), h (spansF 0 barredL) (by simp)⟩
theorem all_step {p : UInt8 → Bool} {s : List UInt8} {k : Nat} {x : UInt8} (hx : s[k]? = some x) (h : (s.take k).all p = true) (hp : p x = true) : (s.take (k + 1)).all p = true := by
  rw [List.take_add_one, hx, List.all_append, h]
  simp [hp]
theorem all_no {p : UInt8 → Bool} {s : List UInt8} {x : UInt8} (hx : x ∈ s) (hp : p x = false) : s.all p = false := by
  rw [List.all_eq_false]
  exact ⟨x, hx, by rw [hp]; decide⟩
def valC (x : UInt8) : Bool := decide (x.toNat ≠ 0) && decide (x.toNat ≠ 44)
def valB (l : List UInt8) : Bool := decide (l ≠ []) && (validB l && l.all valC)
theorem value_c (w : World) (s : List UInt8) (hl : s.length ≤ 100000) (hf : Forms 6 w) : Pu Tryz.prog n_scram_value #[.string (mkS s)] w (.bool (valB s)) := by
  have g := good_scram_value w (Un [])
  have hsz : (mkS s).size = s.length := by simp [mkS, ByteArray.size]
  refine con_of_sx (cx := cx_scram_value w (Un [])) g b_scram_value rfl rfl (β := Va.z) [.c (.v (.string (mkS s)))] 0 [] [oldF w] rfl rfl (old_sat rfl) ?_
  have no : valB s = false → ∀ {n : Nat} {H : List Bk} {F : List Fact} (β : Va) (w' : World), Sat (cx_scram_value w (Un [])) β n H F w' → Fin w [] (fun u Fs => u = .bool (valB s) ∧ Fs = []) (.bool false) w' := by
    intro h n H F β w' hs
    rw [h]
    exact (hs.keepB (List.nil_sublist _)).fin [] ⟨rfl, rfl⟩
  refine BIf.dec (p := mkS s = mkS []) (fun h => ?_) (fun h => ?_)
  · have h0 := mkS_nil.1 h
    exact no (by rw [h0]; rfl)
  have h0 : s ≠ [] := fun q => h (mkS_nil.2 q)
  refine call_pu (fun β w' hs => valid_c w' (mkS s) (by omega) (Forms.old hf (hs.get 0 rfl))) ?_
  have hv : (mkS s).data.toList = s := rfl
  rw [hv]
  obtain ⟨v, hvv⟩ : ∃ v, validB s = v := ⟨_, rfl⟩
  have hval : valB s = (v && s.all valC) := by unfold valB; rw [hvv, decide_eq_true h0]; rfl
  rw [hvv]
  cases v with
  | false => exact no hval
  | true =>
    refine loop_rule 0 (fun k : Nat => [(0, .c (.v (.string (mkS s)))), (12, .c (.v (.int .i64 (mkS s).size))), (13, .c (.v (.int .i64 (k : Int))))]) (fun _ => []) (fun _ => [oldF w])
      (fun k => k ≤ s.length ∧ (s.take k).all valC = true) (fun k => s.length - k) 0 ⟨Nat.zero_le _, rfl⟩ (Ent.same ⟨rfl, rfl, rfl, trivial⟩ rfl) g ?_
    rintro k ⟨hk, hall⟩
    refine BIf.dec (fun hlt => ?_) (fun hge => ?_)
    · have hlt : k < s.length := by have h0 : (k : Int) < (mkS s).size := hlt; omega
      obtain ⟨x, hx, hxm⟩ := at_lt (l := s) (k := k) hlt
      refine ⟨k, x, rfl, hx, ?_⟩
      refine BIf.dec (fun h0 => ?_) (fun h0 => ?_)
      · have q : (x.toNat : Int) = 0 := h0
        exact no (by rw [hval, all_no hxm (by unfold valC; rw [decide_eq_false (by omega)]; rfl)]; rfl)
      refine ⟨k, x, rfl, hx, ?_⟩
      refine BIf.dec (fun h1 => ?_) (fun h1 => ?_)
      · have q : (x.toNat : Int) = 44 := h1
        exact no (by rw [hval, all_no hxm (by unfold valC; rw [decide_eq_false (p := x.toNat ≠ 44) (by omega), Bool.and_false])]; rfl)
      have q0 : ¬ (x.toNat : Int) = 0 := h0
      have q1 : ¬ (x.toNat : Int) = 44 := h1
      refine ⟨((k + 1 : Nat) : Int), by rw [wrap_i64 (by omega) (by omega)]; rfl, ?_⟩
      exact ⟨k + 1, ⟨hlt, all_step hx hall (by unfold valC; rw [decide_eq_true (by omega), decide_eq_true (by omega)]; rfl)⟩, by omega, Ent.same ⟨rfl, rfl, rfl, trivial⟩ rfl⟩
    · have hkl : k = s.length := by have h0 : ¬ (k : Int) < (mkS s).size := hge; omega
      subst hkl
      rw [List.take_length] at hall
      intro β w' hs
      refine (hs.keepB (List.nil_sublist _)).fin [] ⟨?_, rfl⟩
      rw [hval, hall]
      rfl
def nonC (x : UInt8) : Bool := decide (33 ≤ x.toNat) && (decide (x.toNat ≤ 126) && decide (x.toNat ≠ 44))
def nonB (l : List UInt8) : Bool := l.all nonC && (decide (l ≠ []) && decide (l.length ≤ 64))
theorem nonce_c (w : World) (s : List UInt8) (hl : s.length ≤ 100000) : Pu Tryz.prog n_scram_Nonce #[.string (mkS s)] w (.bool (nonB s)) := by
  have g := good_scram_Nonce w (Un [])
  have hsz : (mkS s).size = s.length := by simp [mkS, ByteArray.size]
  refine con_of_sx (cx := cx_scram_Nonce w (Un [])) g b_scram_Nonce rfl rfl (β := Va.z) [.c (.v (.string (mkS s)))] 0 [] [] rfl rfl (Sat.start rfl) ?_
  have no : nonB s = false → ∀ {n : Nat} {H : List Bk} {F : List Fact} (β : Va) (w' : World), Sat (cx_scram_Nonce w (Un [])) β n H F w' → Fin w [] (fun u Fs => u = .bool (nonB s) ∧ Fs = []) (.bool false) w' := by
    intro h n H F β w' hs
    rw [h]
    exact (hs.keepB (List.nil_sublist _)).fin [] ⟨rfl, rfl⟩
  refine loop_rule 0 (fun k : Nat => [(0, .c (.v (.string (mkS s)))), (5, .c (.v (.int .i64 (mkS s).size))), (6, .c (.v (.int .i64 (k : Int))))]) (fun _ => []) (fun _ => [])
    (fun k => k ≤ s.length ∧ (s.take k).all nonC = true) (fun k => s.length - k) 0 ⟨Nat.zero_le _, rfl⟩ (Ent.same ⟨rfl, rfl, rfl, trivial⟩ rfl) g ?_
  rintro k ⟨hk, hall⟩
  refine BIf.dec (fun hlt => ?_) (fun hge => ?_)
  · have hlt : k < s.length := by have h0 : (k : Int) < (mkS s).size := hlt; omega
    obtain ⟨x, hx, hxm⟩ := at_lt (l := s) (k := k) hlt
    have bad : nonC x = false → nonB s = false := fun h => by unfold nonB; rw [all_no hxm h]; rfl
    refine ⟨k, x, rfl, hx, ?_⟩
    refine BIf.dec (fun h0 => ?_) (fun h0 => ?_)
    · have q : (x.toNat : Int) < 33 := h0
      exact no (bad (by unfold nonC; rw [decide_eq_false (by omega)]; rfl))
    refine ⟨k, x, rfl, hx, ?_⟩
    refine BIf.dec (fun h1 => ?_) (fun h1 => ?_)
    · have q : (126 : Int) < x.toNat := h1
      exact no (bad (by unfold nonC; rw [decide_eq_false (p := x.toNat ≤ 126) (by omega), Bool.false_and, Bool.and_false]))
    refine ⟨k, x, rfl, hx, ?_⟩
    refine BIf.dec (fun h2 => ?_) (fun h2 => ?_)
    · have q : (x.toNat : Int) = 44 := h2
      exact no (bad (by unfold nonC; rw [decide_eq_false (p := x.toNat ≠ 44) (by omega), Bool.and_false, Bool.and_false]))
    have q0 : ¬ (x.toNat : Int) < 33 := h0
    have q1 : ¬ (126 : Int) < x.toNat := h1
    have q2 : ¬ (x.toNat : Int) = 44 := h2
    refine ⟨((k + 1 : Nat) : Int), by rw [wrap_i64 (by omega) (by omega)]; rfl, ?_⟩
    exact ⟨k + 1, ⟨hlt, all_step hx hall (by unfold nonC; rw [decide_eq_true (by omega), decide_eq_true (by omega), decide_eq_true (by omega)]; rfl)⟩, by omega, Ent.same ⟨rfl, rfl, rfl, trivial⟩ rfl⟩
  · have hkl : k = s.length := by have h0 : ¬ (k : Int) < (mkS s).size := hge; omega
    subst hkl
    rw [List.take_length] at hall
    have hn : nonB s = (decide (s ≠ []) && decide (s.length ≤ 64)) := by unfold nonB; rw [hall]; rfl
    refine BIf.not (BIf.dec (p := mkS s = mkS []) (fun h => ?_) (fun h => ?_))
    · have h0 := mkS_nil.1 h
      exact no (by rw [hn, h0]; rfl)
    · have h0 : s ≠ [] := fun q => h (mkS_nil.2 q)
      intro β w' hs
      refine (hs.keepB (List.nil_sublist _)).fin [] ⟨?_, rfl⟩
      rw [hn, decide_eq_true h0, Bool.true_and]
      show Value.bool (decide (((mkS s).size : Int) ≤ 64)) = _
      rw [decide_eq_decide.2 (show (((mkS s).size : Int) ≤ 64) ↔ s.length ≤ 64 by omega)]
theorem sizedS_c (w : World) (s : List UInt8) (ok : Bool) : Pu Tryz.prog n_scram_sized #[.string (mkS s), .bool ok] w (.tuple #[.string (if ok then if s.length ≤ 4096 then mkS s else mkS [] else mkS []), .int .i64 (if ok then if s.length ≤ 4096 then 0 else 3 else 4)]) := by
  have g := good_scram_sized w (Un [])
  have hsz : (mkS s).size = s.length := by simp [mkS, ByteArray.size]
  refine con_of_sx (cx := cx_scram_sized w (Un [])) g b_scram_sized rfl rfl (β := Va.z) [.c (.v (.string (mkS s))), .c (.v (.bool ok))] 0 [] [] rfl rfl (Sat.start rfl) ?_
  cases ok with
  | false =>
    intro β w' hs
    exact (hs.keepB (List.nil_sublist _)).fin [] ⟨rfl, rfl⟩
  | true =>
    refine BIf.dec (fun h => ?_) (fun h => ?_)
    · have h0 : (4096 : Int) < (mkS s).size := h
      intro β w' hs
      refine (hs.keepB (List.nil_sublist _)).fin [] ⟨?_, rfl⟩
      rw [if_pos rfl, if_pos rfl, if_neg (by omega), if_neg (by omega)]
      rfl
    · have h0 : ¬ (4096 : Int) < (mkS s).size := h
      intro β w' hs
      refine (hs.keepB (List.nil_sublist _)).fin [] ⟨?_, rfl⟩
      rw [if_pos rfl, if_pos rfl, if_pos (by omega), if_pos (by omega)]
      rfl
end Go.Proofs.YtnhckgipdoojeaaGreatDoor.Sx
