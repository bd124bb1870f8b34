/- Frames one by one, and some of them. -/
import Derived.Test.YtlbnmjjbjjmifaaFr3
import Derived.Test.YtlbnmjjbjjmifaaSxIt
namespace Go.Proofs.Ytlbnmjjbjjmifaa.Sx
open Go
attribute [local irreducible] Calls

def hptr (b : Option Nat) : Value := .pointer (b.map fun b => ⟨b, 0, none⟩)
abbrev RS := List UInt8 × Int
/-- A Reader's memory, or nobody's. -/
def rdrF (b : Option Nat) (s : RS) (f : Fact) : Prop := match b with | none => f = noO | some b => ∃ A c, f = rdr b A s.1 c s.2
def rrdrF (b : Option Nat) (s : RS) (f : Fact) : Prop := match b with | none => f = noO | some b => ∃ A c, f = rrdr b A s.1 c s.2
def nextO (b : Option Nat) (s : RS) : UInt8 × List UInt8 × Int := match b with | none => (0, [], 6) | some _ => nextF s.1 s.2
def afterO (b : Option Nat) (s : RS) : RS := match b with | none => s | some _ => nextS s.1 s.2
theorem rdrF.own {b : Option Nat} {s : RS} {f : Fact} (h : rdrF b s f) : f.own = true := by
  cases b with
  | none => rw [show f = noO from h]; rfl
  | some b => obtain ⟨A, c, rfl⟩ := h; rfl
theorem rrdrF.own {b : Option Nat} {s : RS} {f : Fact} (h : rrdrF b s f) : f.own = true := by
  cases b with
  | none => rw [show f = noO from h]; rfl
  | some b => obtain ⟨A, c, rfl⟩ := h; rfl
theorem Un.one (f : Fact) : Un [f] = f.D := by
  funext k
  simp [Un]
theorem Mem.one {w : World} {f : Fact} (h : Mem w [f]) : f.p w := h.fact f List.mem_cons_self
/-- From the elder form: an owned thing is changed, a row is new. -/
theorem con_row_aft {P : Program} {k : FuncId} {args : Array Value} {w : World} {f : Fact} {e : Nat} {R : Value → List Fact → Prop}
    (h : Calls P k args w fun en w' => ∃ v, en = .returned v ∧ ∃ A l c f', NewRow w w' A l c e ∧ Aft f f' w w' ∧ f'.own = true ∧ (∀ k, (browF e A l c).D k → ¬ f'.D k) ∧ R v [browF e A l c, f']) (hlt : ∀ k, f.D k → k < w.heap.size) : Con P k args w [f] R := by
  refine Calls.mono h ?_
  rintro en w' ⟨v, rfl, A, l, c, f', hn, ha, ho, hd, hR⟩
  refine ⟨v, rfl, _, hR, by rw [Un.one]; exact ha.1, ⟨fun g hg => ?_, fun g hg k hk => ?_, List.pairwise_cons.2 ⟨fun g hg _ k hk => ?_, List.pairwise_singleton _ _⟩⟩, ⟨rfl, ho, trivial⟩, fun g hg k hk => ?_⟩
  · rcases List.mem_cons.1 hg with rfl | hg
    · exact hn.2.2.1
    · obtain rfl := List.mem_singleton.1 hg; exact ha.2.1
  · rcases List.mem_cons.1 hg with rfl | hg
    · exact (hn.lt k hk).2
    · obtain rfl := List.mem_singleton.1 hg
      rcases ha.2.2 k hk with q | q
      · exact Nat.lt_of_lt_of_le (hlt k q) ha.1.size
      · exact q.2
  · obtain rfl := List.mem_singleton.1 hg
    exact hd k hk
  · rcases List.mem_cons.1 hg with rfl | hg
    · exact .inr (hn.lt k hk).1
    · obtain rfl := List.mem_singleton.1 hg
      rw [Un.one]
      rcases ha.2.2 k hk with q | q
      · exact .inl q
      · exact .inr q.1

def frameOut (x : UInt8 × List UInt8 × Int) (S : Fact → Prop) (v : Value) (Fs : List Fact) : Prop :=
  ∃ A c f', v = .tuple #[frameV x.1 A x.2.1 c, .int .i64 x.2.2] ∧ x.2.1.length ≤ c ∧ c ≤ maxLen ∧ S f' ∧ Fs = [browF ty_uint8 A x.2.1 c, f']

theorem nil_row_con {P : Program} {k : FuncId} {args : Array Value} {w : World} {S : Fact → Prop} (hS : S noO) (h : Calls P k args w fun e w' => ∃ v, e = .returned v ∧ v = .tuple #[frameV 0 none [] 0, .int .i64 6] ∧ Chg None_ w w') : Con P k args w [noO] (frameOut (0, [], 6) S) := by
  refine con_row_aft (e := ty_uint8) (Calls.mono h ?_) (fun k hk => hk.elim)
  rintro e w' ⟨v, rfl, rfl, hc⟩
  refine ⟨_, rfl, none, [], 0, noO, NewRow.none _ _ _, ⟨hc, trivial, fun k hk => hk.elim⟩, rfl, fun k hk => (by cases hk), none, 0, noO, rfl, Nat.le_refl _, Nat.zero_le _, hS, rfl⟩

theorem nextO_c (w : World) (b : Option Nat) (s : RS) (f : Fact) (hf : rdrF b s f) (hm : Mem w [f]) (hl : s.1.length ≤ 8192) :
    Con Try.prog n_frame_Reader_Next #[hptr b] w [f] (frameOut (nextO b s) (rdrF b (afterO b s))) := by
  cases b with
  | none =>
    obtain rfl : f = noO := hf
    refine nil_row_con rfl ?_
    refine calls_of_sx (cx := cx_frame_Reader_Next w None_) (good_frame_Reader_Next w None_) b_frame_Reader_Next rfl rfl (β := Va.z) [.c (.v (.pointer none))] 0 [] [] rfl rfl (Sat.start rfl) ?_
    intro β w' hs
    exact ⟨rfl, hs.chg⟩
  | some b =>
    obtain ⟨A, c, rfl⟩ := hf
    refine con_row_aft (e := ty_uint8) (Calls.mono (next_c w b A s.1 c s.2 hm.one hl) ?_) (hm.flt _ List.mem_cons_self)
    rintro e w' ⟨v, rfl, A2, c2, A', c', rfl, hn, ha, hd⟩
    exact ⟨_, rfl, A2, _, c2, _, hn, ha, rfl, hd, A2, c2, _, rfl, hn.1, hn.2.1, ⟨A', c', rfl⟩, rfl⟩

/-! ### the iterator -/
abbrev Fr := UInt8 × List UInt8
def insF (x : Fr) (args : Array Value) (X : Fact) : Prop := ∃ A c, x.2.length ≤ c ∧ c ≤ maxLen ∧ args = #[frameV x.1 A x.2 c] ∧ X = browF ty_uint8 A x.2 c
/-- These frames come, one by one. -/
def Run (b : Option Nat) : RS → List Fr → RS → Prop
  | s, [], t => t = s
  | s, x :: r, t => nextO b s = (x.1, x.2, 0) ∧ Run b (afterO b s) r t
theorem Run.snoc {b : Option Nat} : ∀ {pre : List Fr} {s t : RS} {x : Fr}, Run b s pre t → nextO b t = (x.1, x.2, 0) → Run b s (pre ++ [x]) (afterO b t)
  | [], s, t, x, h, hx => by obtain rfl : t = s := h; exact ⟨hx, rfl⟩
  | y :: r, s, t, x, h, hx => ⟨h.1, Run.snoc h.2 hx⟩

theorem after_len (b : Option Nat) (s : RS) : (afterO b s).1.length ≤ s.1.length := by
  cases b with
  | none => exact Nat.le_refl _
  | some b =>
    show (nextS s.1 s.2).1.length ≤ _
    unfold nextS
    split
    · split
      · simp
      · split <;> simp
    · exact Nat.le_refl _
theorem after_lt (b : Option Nat) (s : RS) (h : (nextO b s).2.2 = 0) : (afterO b s).1.length < s.1.length := by
  cases b with
  | none => exact absurd h (show ¬ (6 : Int) = 0 by decide)
  | some b =>
    show (nextS s.1 s.2).1.length < _
    have h' : (nextF s.1 s.2).2.2 = 0 := h
    unfold nextF at h'
    unfold nextS
    by_cases h0 : s.2 = 0
    · rw [if_pos h0] at h' ⊢
      have h2 : (unpackF s.1).2.2.2 = 0 := by simp only at h'; omega
      rw [if_pos h2]
      have h3 : 3 ≤ (unpackF s.1).2.2.1 ∧ (unpackF s.1).2.2.1 ≤ s.1.length := by
        rcases unpackF_spec s.1 with ⟨_, h3, h4⟩ | h3 | h3 | h3
        · exact ⟨h3, h4⟩
        all_goals omega
      simp
      omega
    · rw [if_neg h0] at h'
      exact absurd h' h0
def framesEnd (b : Option Nat) (s0 : RS) (J Jx : List Fr → Fact → Prop) (Fs : List Fact) : Prop :=
  ∃ f Fs', Fs = f :: Fs' ∧ ((∃ xs, J xs f ∧ ∃ s fr, Run b s0 xs s ∧ (nextO b s).2.2 ≠ 0 ∧ rdrF b (afterO b s) fr ∧ Fs' = [fr]) ∨ (∃ pre, Jx pre f ∧ ∃ s fr, Run b s0 pre s ∧ rdrF b s fr ∧ Fs' = [fr]))

theorem frames_it (l : Nat) (w : World) (bx : Nat) (b : Option Nat) (s0 : RS) (f0 R fr : Fact) (J Jx : List Fr → Fact → Prop) (hJ0 : J [] f0) (hJo : ∀ pre f, J pre f → f.own = true) (hRo : R.own = false) (hY : Yc Try.prog l J Jx R insF)
    (hfr : rdrF b s0 fr) (hl : s0.1.length ≤ 8192) (hm : Mem w (f0 :: R :: [bkF bx ty_ptr_frame_Reader [hptr b], fr])) :
    Con Try.prog n_frame_Reader_Frames_1 #[.func (.yield l) #[] #[], .pointer (some ⟨bx, 0, none⟩)] w [f0, bkF bx ty_ptr_frame_Reader [hptr b], fr] (fun _ Fs => framesEnd b s0 J Jx Fs) := by
  have g := good_frame_Reader_Frames_1 w (Un [f0, bkF bx ty_ptr_frame_Reader [hptr b], fr]) [bx]
  have hs0 : Sat (cx_frame_Reader_Frames_1 w (Un [f0, bkF bx ty_ptr_frame_Reader [hptr b], fr]) [bx]) (Va.of fun _ => bx) 1 [] (f0 :: R :: [bkF bx ty_ptr_frame_Reader [hptr b], fr]) w := by
    refine hm.sat rfl (fun f hf ho k hk => ?_) ⟨Nat.le_refl 1, fun i hi => by obtain rfl : i = 0 := Nat.lt_one_iff.1 hi; rfl⟩
    simp only [List.mem_cons, List.not_mem_nil, or_false] at hf
    rcases hf with rfl | rfl | rfl | rfl
    · exact ⟨_, by simp, hk⟩
    · rw [hRo] at ho; cases ho
    · exact ⟨_, by simp, hk⟩
    · exact ⟨_, by simp, hk⟩
  have hs1 := hs0.toBk 2 rfl 0 Nat.zero_lt_one rfl
  refine con_of_sx (cx := cx_frame_Reader_Frames_1 w (Un [f0, bkF bx ty_ptr_frame_Reader [hptr b], fr]) [bx]) g b_frame_Reader_Frames_1 rfl rfl (β := Va.of fun _ => bx) [.c (.v (.func (.yield l) #[] #[])), .c (.p 0 0)] 1 _ _ rfl rfl hs1 ?_
  refine loop_rule (ι := List Fr × RS × Fact × Fact) 1 (fun _ => [(0, .c (.v (.func (.yield l) #[] #[]))), (1, .c (.p 0 0))]) (fun _ => [⟨0, ty_ptr_frame_Reader, [.v (hptr b)]⟩]) (fun i => [i.2.2.1, R, i.2.2.2])
    (fun i => J i.1 i.2.2.1 ∧ rdrF b i.2.1 i.2.2.2 ∧ Run b s0 i.1 i.2.1 ∧ i.2.1.1.length ≤ 8192) (fun i => i.2.1.1.length) ([], s0, f0, fr) ⟨hJ0, hfr, rfl, hl⟩ (Ent.same ⟨rfl, rfl, trivial⟩ rfl) g ?_
  rintro ⟨pre, s, f, fr⟩ ⟨hJ, hfr, hrun, hl⟩
  simp only at hJ hfr hrun hl
  have hfo := hJo _ _ hJ
  have hro := hfr.own
  refine call_con [2] (fun β w hs => nextO_c w b s fr hfr (hs.mem.take (js := [2]) rfl) hl) ?_
  rintro v Fs ⟨A, c, f', rfl, hc1, hc2, hf', rfl⟩
  obtain ⟨k, body, e, hx⟩ : ∃ k body e, nextO b s = (k, body, e) := ⟨_, _, _, rfl⟩
  simp only [hx] at hc1
  simp only [hx]
  refine BIf.not (BIf.dec (fun h0 => ?_) (fun h0 => ?_))
  · subst h0
    have hrun' : Run b s0 (pre ++ [(k, body)]) (afterO b s) := hrun.snoc hx
    have hlt := after_lt b s (by rw [hx])
    refine yield_own (x := (k, body)) hY 2 3 0 rfl hJ hfo rfl rfl rfl (by decide) (by decide) (by decide) (fun β => ⟨A, c, hc1, hc2, rfl, rfl⟩) ?_ ?_
    · intro f2 hfo2 hJ2
      refine ⟨(pre ++ [(k, body)], afterO b s, f2, f'), ⟨hJ2, hf', hrun', by show (afterO b s).1.length ≤ 8192; omega⟩, hlt, Ent.mk' ⟨rfl, rfl, trivial⟩ rfl (fun β w hs => ?_)⟩
      exact ((hs.keepB (List.sublist_cons_self _ _)).perm [0, 2, 1]).lower
    · intro f2 hfo2 hJ2 β w' hs
      exact hs.fin [0, 1] ⟨f2, [f'], rfl, .inr ⟨_, hJ2, _, f', hrun', hf', rfl⟩⟩ rfl rfl rfl ⟨hfo2, hf'.own, trivial⟩
  · intro β w' hs
    exact hs.fin [2, 1] ⟨f, [f'], rfl, .inl ⟨pre, hJ, s, f', hrun, by rw [hx]; exact h0, hf', rfl⟩⟩ rfl rfl rfl ⟨hfo, hf'.own, trivial⟩
theorem frames_c (w : World) (b : Option Nat) : Con Try.prog n_frame_Reader_Frames #[hptr b] w [] (fun v Fs => ∃ bx, v = .func (.func n_frame_Reader_Frames_1) #[] #[.pointer (some ⟨bx, 0, none⟩)] ∧ Fs = [bkF bx ty_ptr_frame_Reader [hptr b]]) := by
  refine con_of_sx (cx := cx_frame_Reader_Frames w (Un [])) (good_frame_Reader_Frames w (Un [])) b_frame_Reader_Frames rfl rfl (β := Va.z) [.c (.v (hptr b))] 0 [] [] rfl rfl (Sat.start rfl) ?_
  intro β w' hs
  exact hs.ofBk.fin [0] ⟨β 0, rfl, rfl⟩

/-! ### some of them -/
structure Fe where
  k : UInt8
  l : List UInt8
  A : Option Addr
  c : Nat
def Fe.cells (e : Fe) : List Value := [byte e.k, .slice e.A e.l.length e.c]
def Fe.fr (e : Fe) : Fr := (e.k, e.l)
def Fe.F (e : Fe) : Fact := browF ty_uint8 e.A e.l e.c
def bodF (fs : List Fe) : Fact := sepF (fs.map Fe.F)
def Fe.ok (e : Fe) : Prop := e.l.length ≤ e.c ∧ e.c ≤ maxLen
abbrev frsF (A : Option Addr) (c : Nat) (fs : List Fe) : Fact := rowF ty_frame_Frame 2 (.slice A fs.length c) fs.length (fs.flatMap Fe.cells)
theorem bodF_snoc {cx : Cx} {β : Va} {n : Nat} {H : List Bk} {F : List Fact} {w : World} (h : Sat cx β n H F w) {fs : List Fe} {e : Fe} (i j : Nat) (hn : nodupB [i, j] = true) (hi : nth F i = some (bodF fs)) (hj : nth F j = some e.F) : Sat cx β n H (bodF (fs ++ [e]) :: dropIx [i, j] 0 F) w := by
  have htk : takeIx F [i, j] = [bodF fs, e.F] := by simp only [takeIx, hi, hj]
  refine h.fuse [i, j] _ (fun w hm => ?_) (fun k hk => ?_) hn (by rw [htk]; exact ⟨rfl, rfl, trivial⟩)
  · rw [htk] at hm
    have h1 := hm.fact _ List.mem_cons_self
    have h2 := hm.fact e.F (by simp)
    have h3 := (List.pairwise_cons.1 hm.sepf).1 e.F (by simp) (.inl rfl)
    refine ⟨fun f hf => ?_, ?_⟩
    · rw [List.map_append] at hf
      rcases List.mem_append.1 hf with hf | hf
      · exact h1.1 f hf
      · obtain rfl := List.mem_singleton.1 hf; exact h2
    · rw [List.map_append]
      refine List.pairwise_append.2 ⟨h1.2, List.pairwise_singleton _ _, fun f hf g hg k hk => ?_⟩
      obtain rfl := List.mem_singleton.1 hg
      exact h3 k ⟨f, hf, hk⟩
  · rw [htk]
    obtain ⟨f, hf, q⟩ := hk
    rw [List.map_append] at hf
    rcases List.mem_append.1 hf with hf | hf
    · exact ⟨bodF fs, by simp, ⟨f, hf, q⟩⟩
    · obtain rfl := List.mem_singleton.1 hf; exact ⟨e.F, by simp, q⟩

def takeF (b : Option Nat) : Nat → RS → List Fr × RS
  | 0, s => ([], s)
  | m + 1, s => if (nextO b s).2.2 = 0 then (((nextO b s).1, (nextO b s).2.1) :: (takeF b m (afterO b s)).1, (takeF b m (afterO b s)).2) else ([], afterO b s)
theorem takeF_stop {b : Option Nat} : ∀ {pre : List Fr} {s t : RS}, Run b s pre t → takeF b pre.length s = (pre, t)
  | [], s, t, h => by obtain rfl : t = s := h; rfl
  | x :: r, s, t, h => by
    have ih := takeF_stop h.2
    have h1 := h.1
    simp only [List.length_cons, takeF, h1, ih, if_true]
theorem takeF_end {b : Option Nat} : ∀ {pre : List Fr} {s t : RS} {m : Nat}, Run b s pre t → pre.length < m → (nextO b t).2.2 ≠ 0 → takeF b m s = (pre, afterO b t)
  | [], s, t, m + 1, h, _, hn => by obtain rfl : t = s := h; simp only [takeF, if_neg hn]
  | x :: r, s, t, m + 1, h, hl, hn => by
    have ih := takeF_end (m := m) h.2 (by simp only [List.length_cons] at hl; omega) hn
    have h1 := h.1
    simp only [takeF, h1, ih, if_true]

def adOk (fs : List Fe) (A : Option Addr) : Prop := 0 < fs.length → ∃ ad, A = some ad
def takeOut (b : Option Nat) (m : Nat) (s : RS) (v : Value) (Fs : List Fact) : Prop :=
  ∃ A c fs f', v = .slice A fs.length c ∧ adOk fs A ∧ fs.map Fe.fr = (takeF b m s).1 ∧ (∀ e ∈ fs, Fe.ok e) ∧ rdrF b (takeF b m s).2 f' ∧ Fs = [frsF A c fs, bodF fs, f']

theorem take_c (w0 : World) (b : Option Nat) (s : RS) (fr : Fact) (m : Nat) (hm64 : m < 1000) (hfr : rdrF b s fr) (hm : Mem w0 [fr]) (hl : s.1.length ≤ 8192) :
    Con Try.prog n_ostiarylaw06_take #[hptr b, .int .i64 (m : Int)] w0 [fr] (takeOut b m s) := by
  have g := good_ostiarylaw06_take w0 (Un [fr])
  refine con_of_sx (cx := cx_ostiarylaw06_take w0 (Un [fr])) g b_ostiarylaw06_take rfl rfl (β := Va.z) [.c (.v (hptr b)), .c (.v (.int .i64 (m : Int)))] 0 [] [fr] rfl rfl (hm.sat0 rfl (fun f hf _ k hk => ⟨f, hf, hk⟩)) ?_
  refine BIf.dec (fun h0 => ?_) (fun h0 => ?_)
  · obtain rfl : m = 0 := by omega
    intro β w' hs
    exact (((hs.keepB (List.nil_sublist _)).noMem (bodF []) ⟨fun _ h => (by cases h), List.Pairwise.nil⟩ (fun k hk => by obtain ⟨f, hf, _⟩ := hk; cases hf)).nilRow ty_frame_Frame 2).fin [0, 1, 2] ⟨none, 0, [], fr, rfl, (fun h => by cases h), rfl, fun _ h => (by cases h), hfr, rfl⟩ rfl rfl rfl ⟨rfl, rfl, hfr.own, trivial⟩
  refine call_con [] (fun β w hs => frames_c w b) ?_
  rintro v Fs ⟨bx, rfl, rfl⟩
  refine range_rule (α := Fr) (ι := List Fe × Option Addr × Nat) (κ := List Fe × Option Addr × Nat) g rfl (cv := [.pointer (some ⟨bx, 0, none⟩)]) rfl (by kernel_rfl) 2 (Nat.le_refl 2)
    (fun pre i => pre = i.1.map Fe.fr ∧ i.1.length < m ∧ (∀ e ∈ i.1, Fe.ok e) ∧ adOk i.1 i.2.1) (fun i => [⟨1, ty_sl_frame_Frame, [.v (.slice i.2.1 i.1.length i.2.2)]⟩, ⟨0, ty_int, [.v (.int .i64 (m : Int))]⟩]) (fun i => [frsF i.2.1 i.2.2 i.1, bodF i.1]) (fun i => ⟨rfl, rfl, trivial⟩)
    (fun e pre i => e = .exit 0 ∧ pre = i.1.map Fe.fr ∧ i.1.length = m ∧ (∀ e ∈ i.1, Fe.ok e) ∧ adOk i.1 i.2.1) (fun i => [⟨1, ty_sl_frame_Frame, [.v (.slice i.2.1 i.1.length i.2.2)]⟩, ⟨0, ty_int, [.v (.int .i64 (m : Int))]⟩]) (fun i => [frsF i.2.1 i.2.2 i.1, bodF i.1]) (fun i => ⟨rfl, rfl, trivial⟩)
    [bkF bx ty_ptr_frame_Reader [hptr b], fr] [] [] ⟨rfl, hfr.own, trivial⟩ (fun g h => by cases h) ([], none, 0) ⟨rfl, by show 0 < m; omega, fun _ h => (by cases h), fun h => by cases h⟩ (fun β w hs => ⟨β, Agr.refl _ _, ?_⟩) insF
    (fun xs Fs' => ∃ t fr', Run b s xs t ∧ (nextO b t).2.2 ≠ 0 ∧ rdrF b (afterO b t) fr' ∧ Fs' = [fr']) (fun pre Fs' => ∃ t fr', Run b s pre t ∧ rdrF b t fr' ∧ Fs' = [fr'])
    (fun l w f0 R J Jx hJ0 hJo hRo hY hm => (frames_it l w bx b s f0 R fr J Jx hJ0 hJo hRo hY hfr hl hm).mono fun _ Fs h => h) ?_ ?_ ?_
  · exact ((hs.noMem (bodF []) ⟨fun _ h => (by cases h), List.Pairwise.nil⟩ (fun k hk => by obtain ⟨f, hf, _⟩ := hk; cases hf)).nilRow ty_frame_Frame 2).perm [2, 3, 0, 1]
  · rintro ⟨fs, A0, c0⟩ pre x args X W S l bs pn pn' hbs ⟨hpre, hlt, hok, _⟩ ⟨A, c, h1, h2, rfl, rfl⟩
    simp only at hpre hlt hok
    refine ⟨_, rfl, ?_⟩
    intro b0
    refine ⟨2, fs.length, fs.length + 1, _, [byte x.1, .slice A x.2.length c], _, rfl, fun β w hs => row_rd (hs.get 0 rfl), ?_, rfl, rfl, by rw [maxLen_eq]; omega, ?_, ?_⟩
    · intro u hu
      simp only [List.mem_cons, List.not_mem_nil, or_false] at hu
      rcases hu with rfl | rfl <;> rfl
    · show (fs.length + 1) * 32 ≤ _
      omega
    · intro A' c' q1 q2 q3
      have hadk : adOk (fs ++ [⟨x.1, x.2, A, c⟩]) A' := fun _ => by
        cases A' with
        | none => exact absurd (q3 rfl).2 (by decide)
        | some ad => exact ⟨ad, rfl⟩
      have hle : (fs ++ [⟨x.1, x.2, A, c⟩] : List Fe).length = fs.length + 1 := by simp
      have hfe : frsF A' c' (fs ++ [⟨x.1, x.2, A, c⟩]) = rowF ty_frame_Frame 2 (.slice A' (fs.length + 1) c') (fs.length + 1) (fs.flatMap Fe.cells ++ [byte x.1, .slice A x.2.length c]) := by
        simp only [frsF, hle, List.flatMap_append, List.flatMap_cons, List.flatMap_nil, List.append_nil, Fe.cells]
      have hpre' : pre ++ [x] = (fs ++ [⟨x.1, x.2, A, c⟩] : List Fe).map Fe.fr := by rw [hpre, List.map_append]; rfl
      have hok' : ∀ e ∈ (fs ++ [⟨x.1, x.2, A, c⟩] : List Fe), Fe.ok e := fun e he => by
        rcases List.mem_append.1 he with he | he
        · exact hok e he
        · obtain rfl := List.mem_singleton.1 he; exact ⟨h1, h2⟩
      have hent : ∀ {H : List Bk} {β : Va} {w : World} {n : Nat} {f : Fact}, Sat (rcx (cx_ostiarylaw06_take w0 (Un [fr])) W S l bs pn') β n H [f, browF ty_uint8 A x.2 c, rowF ty_frame_Frame 2 (.slice A' (fs.length + 1) c') (fs.length + 1) (fs.flatMap Fe.cells ++ [byte x.1, .slice A x.2.length c]), bodF fs] w → Sat (rcx (cx_ostiarylaw06_take w0 (Un [fr])) W S l bs pn') β n H [frsF A' c' (fs ++ [⟨x.1, x.2, A, c⟩]), bodF (fs ++ [⟨x.1, x.2, A, c⟩])] w := by
        intro H β w n f hs
        rw [hfe]
        exact (bodF_snoc hs (e := ⟨x.1, x.2, A, c⟩) 3 1 rfl rfl rfl).perm [2, 0]
      refine BIf.dec (fun h3 => ?_) (fun h3 => ?_)
      · refine ⟨(fs ++ [⟨x.1, x.2, A, c⟩], A', c'), ⟨rfl, hpre', by rw [hle]; omega, hok', hadk⟩, Ent.mk' trivial rfl (fun β w hs => ?_)⟩
        have hq := (hent (hs.keepB (List.Sublist.cons _ (List.Sublist.refl _)))).lower (n' := 2)
        rw [← hle] at hq
        exact hq
      · refine ⟨(fs ++ [⟨x.1, x.2, A, c⟩], A', c'), ⟨hpre', by rw [hle]; omega, hok', hadk⟩, Ent.mk' trivial rfl (fun β w hs => ?_)⟩
        have hq := (hent (hs.keepB (List.Sublist.cons _ (List.Sublist.refl _)))).lower (n' := 2)
        rw [← hle] at hq
        exact hq
  · rintro xs ⟨fs, A, c⟩ Fs ⟨hpre, hlt, hok, hadk⟩ ⟨t, fr', hrun, hne, hfr', rfl⟩
    simp only at hpre hlt hok hadk
    have ht := takeF_end hrun (m := m) (by rw [hpre, List.length_map]; exact hlt) hne
    intro β w' hs
    exact hs.fin [1, 2, 0] ⟨A, c, fs, fr', rfl, hadk, by rw [ht, hpre], hok, by rw [ht]; exact hfr', rfl⟩ rfl rfl rfl ⟨rfl, rfl, hfr'.own, trivial⟩
  · rintro e pre ⟨fs, A, c⟩ Fs ⟨rfl, hpre, hlt, hok, hadk⟩ ⟨t, fr', hrun, hfr', rfl⟩
    simp only at hpre hlt hok hadk
    have ht := takeF_stop hrun
    rw [hpre, List.length_map, hlt] at ht
    intro β w' hs
    exact hs.fin [1, 2, 0] ⟨A, c, fs, fr', rfl, hadk, by rw [ht], hok, by rw [ht]; exact hfr', rfl⟩ rfl rfl rfl ⟨rfl, rfl, hfr'.own, trivial⟩
end Go.Proofs.Ytlbnmjjbjjmifaa.Sx
