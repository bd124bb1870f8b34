/- Readers that may be nil; bytes turned; what was there before. -/
import Derived.Test.YtlbnmjjbjjmifaaFr4
import Derived.Test.YtlbnmjjbjjmifaaLawF
namespace Go.Proofs.Ytlbnmjjbjjmifaa.Sx
open Go
attribute [local irreducible] Calls

/-- All that was there at the beginning, as it was. -/
def oldF (W0 : World) : Fact where
  own := false
  D := fun k => k < W0.heap.size
  p := fun w => ∀ k, k < W0.heap.size → w.heap[k]? = W0.heap[k]?
  st := fun w w' hs h k hk => (hs k hk).trans (h k hk)
theorem Rd.old {W0 w : World} {size : Nat} {A : Option Addr} {n : Nat} {xs : List Value} (h : Rd size A n xs W0) (ho : (oldF W0).p w) : Rd size A n xs w := by
  have hl := rd_lt h
  refine ⟨h.1, fun hn => ?_⟩
  obtain ⟨ad, hA, hc⟩ := h.2 hn
  refine ⟨ad, hA, fun j u hu => ?_⟩
  rw [← hc j u hu]
  have hb : (ad.add j).block = ad.block := by unfold Addr.add; split <;> rfl
  refine World.cell?_of_block ?_
  rw [hb]
  have hj : j < xs.length := (List.getElem?_eq_some_iff.1 hu).1
  exact ho _ (hl _ ⟨by rw [← h.1]; omega, ad, hA, rfl⟩)
theorem old_sat {cx : Cx} {w : World} (hW : cx.W0 = w := by rfl) (hbs : cx.bs = [] := by rfl) (hr : cx.rnd = none := by rfl) (hpn : cx.pn = [] := by rfl) : Sat cx Va.z 0 [] [oldF w] w :=
  (Sat.start hW hbs rfl rfl hr hpn).old (oldF w) (fun _ _ => rfl) (fun _ h => h) (fun _ h => by cases h) (fun q => by cases q) (fun _ h => by cases h)

/-- A row of bytes, and nothing else. -/
theorem con_row {P : Program} {k : FuncId} {args : Array Value} {w : World} {e : Nat} {l : List UInt8} (h : Calls P k args w fun en w' => ∃ v, en = .returned v ∧ ∃ A c, v = .slice A l.length c ∧ Chg None_ w w' ∧ NewRow w w' A l c e) :
    Con P k args w [] fun v Fs => ∃ A c, v = .slice A l.length c ∧ l.length ≤ c ∧ c ≤ maxLen ∧ Fs = [browF e A l c] := by
  refine Calls.mono h ?_
  rintro en w' ⟨v, rfl, A, c, rfl, hc, hn⟩
  refine ⟨_, rfl, [browF e A l c], ⟨A, c, rfl, hn.1, hn.2.1, rfl⟩, by rw [Un.nil]; exact hc, ⟨fun g hg => ?_, fun g hg k hk => ?_, List.pairwise_singleton _ _⟩, ⟨rfl, trivial⟩, fun g hg k hk => ?_⟩
  · obtain rfl := List.mem_singleton.1 hg; exact hn.2.2.1
  · obtain rfl := List.mem_singleton.1 hg; exact (hn.lt k hk).2
  · obtain rfl := List.mem_singleton.1 hg; exact .inr (hn.lt k hk).1
theorem pu_of {P : Program} {k : FuncId} {args : Array Value} {w : World} {v : Value} (h : Calls P k args w fun en w' => ∃ u, en = .returned u ∧ u = v ∧ Chg None_ w w') : Pu P k args w v := by
  refine Calls.mono h ?_
  rintro en w' ⟨u, rfl, rfl, hc⟩
  exact ⟨_, rfl, [], ⟨rfl, rfl⟩, by rw [Un.nil]; exact hc, ⟨fun _ q => (by cases q), fun _ q => (by cases q), List.Pairwise.nil⟩, trivial, fun _ q => (by cases q)⟩
/-- One owned thing is changed. -/
theorem con_aft {P : Program} {k : FuncId} {args : Array Value} {w : World} {f : Fact} {R : Value → List Fact → Prop}
    (h : Calls P k args w fun en w' => ∃ v, en = .returned v ∧ ∃ f', Aft f f' w w' ∧ f'.own = true ∧ R v [f']) (hlt : ∀ k, f.D k → k < w.heap.size) : Con P k args w [f] R := by
  refine Calls.mono h ?_
  rintro en w' ⟨v, rfl, f', ha, ho, hR⟩
  refine ⟨v, rfl, _, hR, by rw [Un.one]; exact ha.1, ⟨fun g hg => ?_, fun g hg k hk => ?_, List.pairwise_singleton _ _⟩, ⟨ho, trivial⟩, fun g hg k hk => ?_⟩
  · obtain rfl := List.mem_singleton.1 hg; exact ha.2.1
  · obtain rfl := List.mem_singleton.1 hg
    rcases ha.2.2 k hk with q | q
    · exact Nat.lt_of_lt_of_le (hlt k q) ha.1.size
    · exact q.2
  · obtain rfl := List.mem_singleton.1 hg
    rw [Un.one]
    rcases ha.2.2 k hk with q | q
    · exact .inl q
    · exact .inr q.1

def feedO (b : Option Nat) (s : RS) (m : List UInt8) : Nat := match b with | none => 0 | some _ => feedN s.1 s.2 m
def fedO (b : Option Nat) (s : RS) (m : List UInt8) : RS := match b with | none => s | some _ => (s.1 ++ m.take (feedN s.1 s.2 m), s.2)
def badO (b : Option Nat) (s : RS) : Int := match b with | none => 6 | some _ => s.2
def waitO (b : Option Nat) (s : RS) : Nat := match b with | none => 0 | some _ => s.1.length

theorem none_aft {w w' : World} (hc : Chg None_ w w') : Aft noO noO w w' := ⟨hc, trivial, fun _ h => h.elim⟩
theorem feedO_c (w : World) (b : Option Nat) (s : RS) (f : Fact) (hf : rdrF b s f) (B : Option Addr) (m : List UInt8) (d : Nat) (hm : Mem w [f, bsF B m]) (hmd : m.length ≤ d) (hl : s.1.length ≤ 8192) :
    Con Try.prog n_frame_Reader_Feed #[hptr b, .slice B m.length d] w [f] (fun v Fs => ∃ f', v = .int .i64 (feedO b s m) ∧ rdrF b (fedO b s m) f' ∧ Fs = [f']) := by
  cases b with
  | none =>
    obtain rfl : f = noO := hf
    refine con_aft (Calls.mono (?_ : Calls Try.prog n_frame_Reader_Feed #[.pointer none, .slice B m.length d] w fun e w' => ∃ v, e = .returned v ∧ v = .int .i64 0 ∧ Chg None_ w w') ?_) (fun k hk => hk.elim)
    · refine calls_of_sx (cx := cx_frame_Reader_Feed w None_) (good_frame_Reader_Feed w None_) b_frame_Reader_Feed rfl rfl (β := Va.z) [.c (.v (.pointer none)), .c (.v (.slice B m.length d))] 0 [] [] rfl rfl (Sat.start rfl) ?_
      intro β w' hs
      exact ⟨rfl, hs.chg⟩
    · rintro e w' ⟨v, rfl, rfl, hc⟩
      exact ⟨_, rfl, noO, none_aft hc, rfl, noO, rfl, rfl, rfl⟩
  | some b =>
    obtain ⟨A, c, rfl⟩ := hf
    have hsep := (List.pairwise_cons.1 hm.sepf).1 _ List.mem_cons_self (.inl rfl)
    refine con_aft (Calls.mono (feed_c w b A s.1 c s.2 B m d (hm.fact _ List.mem_cons_self) (hm.fact _ (List.mem_cons_of_mem _ List.mem_cons_self)) hmd hsep hl) ?_) (hm.flt _ List.mem_cons_self)
    rintro e w' ⟨v, rfl, rfl, A', c', ha⟩
    exact ⟨_, rfl, _, ha, rfl, _, rfl, ⟨A', c', rfl⟩, rfl⟩
theorem rfeedO_c (w : World) (b : Option Nat) (s : RS) (f : Fact) (hf : rrdrF b s f) (B : Option Addr) (m : List UInt8) (d : Nat) (hm : Mem w [f, bsF B m]) (hmd : m.length ≤ d) (hl : s.1.length ≤ 8192) :
    Con Try.prog n_ostiaryref06_Feed #[hptr b, .slice B m.length d] w [f] (fun v Fs => ∃ f', v = .int .i64 (feedO b s m) ∧ rrdrF b (fedO b s m) f' ∧ Fs = [f']) := by
  cases b with
  | none =>
    obtain rfl : f = noO := hf
    refine con_aft (Calls.mono (?_ : Calls Try.prog n_ostiaryref06_Feed #[.pointer none, .slice B m.length d] w fun e w' => ∃ v, e = .returned v ∧ v = .int .i64 0 ∧ Chg None_ w w') ?_) (fun k hk => hk.elim)
    · refine calls_of_sx (cx := cx_ostiaryref06_Feed w None_) (good_ostiaryref06_Feed w None_) b_ostiaryref06_Feed rfl rfl (β := Va.z) [.c (.v (.pointer none)), .c (.v (.slice B m.length d))] 0 [] [] rfl rfl (Sat.start rfl) ?_
      intro β w' hs
      exact ⟨rfl, hs.chg⟩
    · rintro e w' ⟨v, rfl, rfl, hc⟩
      exact ⟨_, rfl, noO, none_aft hc, rfl, noO, rfl, rfl, rfl⟩
  | some b =>
    obtain ⟨A, c, rfl⟩ := hf
    have hsep := (List.pairwise_cons.1 hm.sepf).1 _ List.mem_cons_self (.inl rfl)
    refine con_aft (Calls.mono (rfeed_c w b A s.1 c s.2 B m d (hm.fact _ List.mem_cons_self) (hm.fact _ (List.mem_cons_of_mem _ List.mem_cons_self)) hmd hsep hl) ?_) (hm.flt _ List.mem_cons_self)
    rintro e w' ⟨v, rfl, rfl, A', c', ha⟩
    exact ⟨_, rfl, _, ha, rfl, _, rfl, ⟨A', c', rfl⟩, rfl⟩
theorem rnextO_c (w : World) (b : Option Nat) (s : RS) (f : Fact) (hf : rrdrF b s f) (hm : Mem w [f]) (hl : s.1.length ≤ 8192) :
    Con Try.prog n_ostiaryref06_Next #[hptr b] w [f] (frameOut (nextO b s) (rrdrF b (afterO b s))) := by
  cases b with
  | none =>
    obtain rfl : f = noO := hf
    refine nil_row_con rfl ?_
    refine calls_of_sx (cx := cx_ostiaryref06_Next w None_) (good_ostiaryref06_Next w None_) b_ostiaryref06_Next rfl rfl (β := Va.z) [.c (.v (.pointer none))] 0 [] [] rfl rfl (Sat.start rfl) ?_
    intro β w' hs
    exact ⟨rfl, hs.chg⟩
  | some b =>
    obtain ⟨A, c, rfl⟩ := hf
    refine con_row_aft (e := ty_uint8) (Calls.mono (rnext_c w b A s.1 c s.2 hm.one hl) ?_) (hm.flt _ List.mem_cons_self)
    rintro e w' ⟨v, rfl, A2, c2, A', c', rfl, hn, ha, hd⟩
    exact ⟨_, rfl, A2, _, c2, _, hn, ha, rfl, hd, A2, c2, _, rfl, hn.1, hn.2.1, ⟨A', c', rfl⟩, rfl⟩
theorem brokenO_c (w : World) (b : Option Nat) (s : RS) (f : Fact) (hf : rdrF b s f) (hp : f.p w) : Pu Try.prog n_frame_Reader_Broken #[hptr b] w (.int .i64 (badO b s)) := by
  cases b with
  | none =>
    refine pu_of (calls_of_sx (cx := cx_frame_Reader_Broken w None_) (good_frame_Reader_Broken w None_) b_frame_Reader_Broken rfl rfl (β := Va.z) [.c (.v (.pointer none))] 0 [] [] rfl rfl (Sat.start rfl) ?_)
    intro β w' hs
    exact ⟨rfl, hs.chg⟩
  | some b =>
    obtain ⟨A, c, rfl⟩ := hf
    exact pu_of (broken_c w b A s.1 c s.2 hp)
theorem waitingO_c (w : World) (b : Option Nat) (s : RS) (f : Fact) (hf : rdrF b s f) (hp : f.p w) : Pu Try.prog n_frame_Reader_Waiting #[hptr b] w (.int .i64 (waitO b s)) := by
  cases b with
  | none =>
    refine pu_of (calls_of_sx (cx := cx_frame_Reader_Waiting w None_) (good_frame_Reader_Waiting w None_) b_frame_Reader_Waiting rfl rfl (β := Va.z) [.c (.v (.pointer none))] 0 [] [] rfl rfl (Sat.start rfl) ?_)
    intro β w' hs
    exact ⟨rfl, hs.chg⟩
  | some b =>
    obtain ⟨A, c, rfl⟩ := hf
    exact pu_of (waiting_c w b A s.1 c s.2 hp)

theorem u8_bits (op : BinOp) (x y : Int) : ∃ b : UInt8, bits op .u8 x y = (b.toNat : Int) := by
  have h : ∀ z : Int, ∃ b : UInt8, IntKind.u8.wrap z = (b.toNat : Int) := fun z => by
    refine ⟨UInt8.ofNat (z % 256).toNat, ?_⟩
    rw [UInt8.toNat_ofNat', wrap_u8]
    omega
  unfold bits
  split <;> exact h _
/-- All bytes are turned in place. -/
theorem flip_c (w : World) (A : Option Addr) (l : List UInt8) (c : Nat) (hm : Mem w [browF ty_uint8 A l c]) (hn : l.length ≤ lim) :
    Con Try.prog n_ostiaryref01_Flip #[.slice A l.length c] w [browF ty_uint8 A l c] (fun _ Fs => ∃ l', l'.length = l.length ∧ Fs = [browF ty_uint8 A l' c]) := by
  have g := good_ostiaryref01_Flip w (Un [browF ty_uint8 A l c])
  refine con_of_sx (cx := cx_ostiaryref01_Flip w (Un [browF ty_uint8 A l c])) g b_ostiaryref01_Flip rfl rfl (β := Va.z) [.c (.v (.slice A l.length c))] 0 [] [browF ty_uint8 A l c] rfl rfl (hm.sat0 rfl (fun f hf _ k hk => ⟨f, hf, hk⟩)) ?_
  rw [lim_eq] at hn
  have hA : 0 < l.length → ∃ b, A = some ⟨b, 0, none⟩ := fun h0 => by
    rcases hm.one.2 with ⟨_, q⟩ | ⟨g, cap, cur, hv, _⟩
    · omega
    · exact ⟨g, by injection hv⟩
  refine loop_rule (ι := List UInt8 × Nat) 0 (fun i => [(0, .c (.v (.slice A l.length c))), (4, .c (.v (.int .i64 (l.length : Int)))), (5, .c (.v (.int .i64 (i.2 : Int))))]) (fun _ => []) (fun i => [rowF ty_uint8 1 (.slice A l.length c) l.length (i.1.map byte)])
    (fun i => i.1.length = l.length ∧ i.2 ≤ l.length) (fun i => l.length - i.2) (l, 0) ⟨rfl, Nat.zero_le _⟩ (Ent.same ⟨rfl, rfl, rfl, trivial⟩ rfl) g ?_
  rintro ⟨p, i⟩ ⟨hpl, hi⟩
  simp only at hpl hi
  refine BIf.dec (fun h0 => ?_) (fun h0 => ?_)
  · have hi' : i < l.length := by omega
    obtain ⟨b, rfl⟩ := hA (by omega)
    have hip : i < p.length := by omega
    obtain ⟨y, hy⟩ := u8_bits .xor (p[i].toNat : Int) 90
    refine ⟨_, i, rfl, rfl, hi', byte p[i], fun β w hs => ?_, ?_⟩
    · have h1 : Rd 1 (some ⟨b, 0, none⟩) l.length (p.map byte) w := row_rd (hs.get 0 rfl)
      rw [← hpl] at h1
      exact Bs.cell h1 rfl hip
    refine ⟨_, hy, ?_⟩
    refine ⟨_, i, rfl, rfl, hi', ?_⟩
    refine ⟨_, fun β w hs => hs.rowSet (j := 0) (us := [byte y]) rfl (by show i * 1 + 1 ≤ l.length * 1; omega) (fun u hu => by obtain rfl := List.mem_singleton.1 hu; rfl), ?_⟩
    refine ⟨((i + 1 : Nat) : Int), by rw [wrap_i64] <;> omega, ?_⟩
    refine ⟨(p.set i y, i + 1), ⟨by simp [hpl], hi'⟩, by show l.length - (i + 1) < l.length - i; omega, ?_⟩
    have e : putAll (p.map byte) (i * 1) [byte y] = (p.set i y).map byte := by rw [putAll, putAll, putAt_eq, Nat.mul_one, List.map_set]
    show Ent _ _ _ _ (rowF _ _ _ _ (putAll (p.map byte) (i * 1) [byte y]) :: _) _ _ _ _
    rw [e]
    exact Ent.same ⟨rfl, rfl, rfl, trivial⟩ rfl
  · intro β w' hs
    exact hs.fin [0] ⟨p, hpl, by show _ = [rowF _ _ _ _ _]; rw [← hpl]; rfl⟩
end Go.Proofs.Ytlbnmjjbjjmifaa.Sx
