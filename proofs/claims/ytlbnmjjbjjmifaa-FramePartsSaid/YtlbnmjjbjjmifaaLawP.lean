/- FrameParts -/
import Derived.Test.YtlbnmjjbjjmifaaPartsL
import Derived.Test.YtlbnmjjbjjmifaaLawR
namespace Go.Proofs.Ytlbnmjjbjjmifaa.Sx
open Go
attribute [local irreducible] Calls

structure Bf where
  A : Option Addr
  p : List UInt8
  c : Nat
def Bf.cell (b : Bf) : Value := .slice b.A b.p.length b.c
def Bf.ok (w : World) (b : Bf) : Prop := Bs w b.A b.p ∧ b.p.length ≤ b.c
abbrev rfrF (A : Option Addr) (c : Nat) (fs : List Fe) : Fact := rowF ty_ostiaryref06_Frame 2 (.slice A fs.length c) fs.length (fs.flatMap Fe.cells)

theorem Rd.one {α : Type} {f : α → Value} {A : Option Addr} {l : List α} {w : World} (h : Rd 1 A l.length (l.map f) w) {ad : Addr} (hA : A = some ad) {i : Nat} (hi : i < l.length) : w.cell? (ad.add (i * 1)) = some (f l[i]) := by
  obtain ⟨ad', q, hc⟩ := h.2 (by omega)
  rw [hA] at q
  obtain rfl := Option.some.inj q
  rw [Nat.mul_one]
  exact hc i _ (by simp [hi])
theorem con_row2 {P : Program} {k : FuncId} {args : Array Value} {w : World} {e : Nat} {l : List UInt8} {u : Value} (h : Calls P k args w fun en w' => ∃ v, en = .returned v ∧ ∃ A c, v = .tuple #[.slice A l.length c, u] ∧ Chg None_ w w' ∧ NewRow w w' A l c e) :
    Con P k args w [] fun v Fs => ∃ A c, v = .tuple #[.slice A l.length c, u] ∧ l.length ≤ c ∧ c ≤ maxLen ∧ Fs = [browF e A l c] := by
  refine Calls.mono h ?_
  rintro en w' ⟨v, rfl, A, c, rfl, hc, hn⟩
  refine ⟨_, rfl, [browF e A l c], ⟨A, c, rfl, hn.1, hn.2.1, rfl⟩, by rw [Un.nil]; exact hc, ⟨fun g hg => ?_, fun g hg k hk => ?_, List.pairwise_singleton _ _⟩, ⟨rfl, trivial⟩, fun g hg k hk => ?_⟩
  · obtain rfl := List.mem_singleton.1 hg; exact hn.2.2.1
  · obtain rfl := List.mem_singleton.1 hg; exact (hn.lt k hk).2
  · obtain rfl := List.mem_singleton.1 hg; exact .inr (hn.lt k hk).1
theorem bodF_append {cx : Cx} {β : Va} {n : Nat} {H : List Bk} {F : List Fact} {w : World} (h : Sat cx β n H F w) {fs gs : List Fe} (i j : Nat) (hn : nodupB [i, j] = true) (hi : nth F i = some (bodF fs)) (hj : nth F j = some (bodF gs)) : Sat cx β n H (bodF (fs ++ gs) :: dropIx [i, j] 0 F) w := by
  have htk : takeIx F [i, j] = [bodF fs, bodF gs] := by simp only [takeIx, hi, hj]
  refine h.fuse [i, j] _ (fun w hm => ?_) (fun k hk => ?_) hn (by rw [htk]; exact ⟨rfl, rfl, trivial⟩)
  · rw [htk] at hm
    have h1 := hm.fact _ List.mem_cons_self
    have h2 := hm.fact (bodF gs) (by simp)
    have h3 := (List.pairwise_cons.1 hm.sepf).1 (bodF gs) (by simp) (.inl rfl)
    refine ⟨fun f hf => ?_, ?_⟩
    · rw [List.map_append] at hf
      rcases List.mem_append.1 hf with hf | hf
      · exact h1.1 f hf
      · exact h2.1 f hf
    · rw [List.map_append]
      exact List.pairwise_append.2 ⟨h1.2, h2.2, fun f hf g hg k hk hk' => h3 k ⟨f, hf, hk⟩ ⟨g, hg, hk'⟩⟩
  · rw [htk]
    obtain ⟨f, hf, q⟩ := hk
    rw [List.map_append] at hf
    rcases List.mem_append.1 hf with hf | hf
    · exact ⟨bodF fs, by simp, ⟨f, hf, q⟩⟩
    · exact ⟨bodF gs, by simp, ⟨f, hf, q⟩⟩
theorem cells_one (fs : List Fe) : ∀ u ∈ fs.flatMap Fe.cells, u.oneCell' = true := by
  intro u hu
  obtain ⟨e, _, h⟩ := List.mem_flatMap.1 hu
  simp only [Fe.cells, List.mem_cons, List.not_mem_nil, or_false] at h
  rcases h with rfl | rfl <;> rfl
theorem cutA_D {A : Option Addr} {c n : Nat} {l m : List UInt8} (hm : 0 < m.length → 0 < l.length) : ∀ k, (bsF (cutA A c n 1) m).D k → (bsF A l).D k := by
  rintro k ⟨h1, ad, h2, rfl⟩
  rw [Nat.mul_one] at h1
  refine ⟨by rw [Nat.mul_one]; exact hm h1, ?_⟩
  unfold cutA at h2
  split at h2
  · exact ⟨ad, h2, rfl⟩
  · obtain ⟨ad', h3, rfl⟩ := Option.map_eq_some_iff.1 h2
    exact ⟨ad', h3, by unfold Addr.add; split <;> rfl⟩

theorem rpack_con (w : World) (k : UInt8) (A : Option Addr) (p : List UInt8) (c : Nat) (hr : Bs w A p) (hn : p.length ≤ lim) (h : okFr (k, p)) :
    Con Try.prog n_ostiaryref06_Pack #[frameV k A p c] w [] (fun v Fs => ∃ A' c', v = .tuple #[.slice A' (packF k p).1.length c', .int .i64 0] ∧ (packF k p).1.length ≤ c' ∧ c' ≤ maxLen ∧ Fs = [browF ty_uint8 A' (packF k p).1 c']) := by
  have h1 := con_row2 (rpack_c w k A p c hr hn)
  rw [show (packF k p).2 = 0 from h] at h1
  exact h1
def P1 (x : List Fe × Option Addr × Nat × Option Addr × Nat) : Prop :=
  x.1.length ≤ 6 ∧ (∀ e ∈ x.1, okFr e.fr) ∧ (packs (x.1.map Fe.fr)).length ≤ 303 * x.1.length ∧ (packs (x.1.map Fe.fr)).length ≤ x.2.2.1 ∧ x.2.2.1 ≤ maxLen ∧ adOk x.1 x.2.2.2.1
def E1 (A1 : Option Addr) (cuts : List UInt8) (c1 : Nat) (x : List Fe × Option Addr × Nat × Option Addr × Nat) : Env :=
  [(1, .c (.v (.slice A1 cuts.length c1))), (5, .c (.v (.slice x.2.1 (packs (x.1.map Fe.fr)).length x.2.2.1))), (6, .c (.v (.slice x.2.2.2.1 x.1.length x.2.2.2.2)))]
def F1 (w0 : World) (x : List Fe × Option Addr × Nat × Option Addr × Nat) : List Fact := [browF ty_uint8 x.2.1 (packs (x.1.map Fe.fr)) x.2.2.1, rfrF x.2.2.2.1 x.2.2.2.2 x.1, bodF x.1, oldF w0]

theorem stop0 {W : List Fr} (h : ∀ f ∈ W, okFr f) : stopAt (W.drop 0) [] := by
  refine ⟨fun _ => rfl, fun f r hf => ?_⟩
  obtain ⟨_, _, h1⟩ := okFr_form (k := f.1) (l := f.2) (h f (by rw [List.drop_zero] at hf; rw [hf]; exact List.mem_cons_self))
  rw [h1]
  simp
structure S2 where
  all : List UInt8
  A : Option Addr
  c : Nat
  got : List Fe
  B : Option Addr
  d : Nat
  l : List UInt8
  f : Fact
  z : Int
structure P2 (b : Nat) (W : List Fr) (cuts : List UInt8) (x : S2) : Prop where
  rd : rdrF (some b) (x.l, 0) x.f
  got : ∃ J, J ≤ W.length ∧ x.got.map Fe.fr = W.take J ∧ x.l ++ x.all = packs (W.drop J) ∧ stopAt (W.drop J) x.l
  len : x.l.length + x.all.length ≤ 1818
  cap : x.all.length ≤ x.c ∧ x.c ≤ maxLen
  ad : adOk x.got x.B
  z : x.all ≠ [] → 0 ≤ x.z ∧ x.z ≤ cuts.length
def E2 (A1 : Option Addr) (cuts : List UInt8) (c1 : Nat) (b : Nat) (A6 : Option Addr) (n6 c6 : Nat) (x : S2) : Env :=
  [(1, .c (.v (.slice A1 cuts.length c1))), (5, .c (.v (.slice x.A x.all.length x.c))), (6, .c (.v (.slice A6 n6 c6))), (12, .c (.v (hptr (some b)))), (13, .c (.v (.slice x.B x.got.length x.d))), (14, .c (.v (.int .i64 x.z)))]
def F2 (w0 : World) (A6 : Option Addr) (c6 : Nat) (ws : List Fe) (x : S2) : List Fact := [x.f, frsF x.B x.d x.got, bodF x.got, bsF x.A x.all, rfrF A6 c6 ws, bodF ws, oldF w0]
theorem Mem.rdCut {w : World} {f : Fact} {A B : Option Addr} {l m : List UInt8} (h : Mem w [f, bsF A l]) (hf : f.own = true) (hb : Bs w B m) (hD : ∀ k, (bsF B m).D k → (bsF A l).D k) : Mem w [f, bsF B m] := by
  have h1 := (List.pairwise_cons.1 h.sepf).1 _ List.mem_cons_self (.inl hf)
  refine ⟨fun g hg => ?_, fun g hg k hk => ?_, List.pairwise_cons.2 ⟨fun g hg _ k hk hk' => ?_, List.pairwise_singleton _ _⟩⟩
  · rcases List.mem_cons.1 hg with rfl | hg
    · exact h.fact _ List.mem_cons_self
    · obtain rfl := List.mem_singleton.1 hg; exact hb
  · rcases List.mem_cons.1 hg with rfl | hg
    · exact h.flt _ List.mem_cons_self k hk
    · obtain rfl := List.mem_singleton.1 hg; exact h.flt _ (List.mem_cons_of_mem _ List.mem_cons_self) k (hD k hk)
  · obtain rfl := List.mem_singleton.1 hg
    exact h1 k hk (hD k hk')

set_option maxHeartbeats 1000000 in
theorem frameParts_c (w0 : World) (A0 : Option Addr) (c0 : Nat) (bs : List Bf) (hA : Rd 1 A0 bs.length (bs.map Bf.cell) w0) (hin : ∀ b ∈ bs, Bf.ok w0 b) (hn : bs.length ≤ 9223372036854775807) (A1 : Option Addr) (cuts : List UInt8) (c1 : Nat) (hC : Bs w0 A1 cuts) (hcn : cuts.length ≤ 9223372036854775807) :
    Calls Try.prog n_ostiarylaw06_FrameParts #[.slice A0 bs.length c0, .slice A1 cuts.length c1] w0 fun e w' => ∃ v, e = .returned v ∧ v = .bool true ∧ Chg None_ w0 w' := by
  have g := good_ostiarylaw06_FrameParts w0 None_
  refine calls_of_sx (cx := cx_ostiarylaw06_FrameParts w0 None_) g b_ostiarylaw06_FrameParts rfl rfl (β := Va.z) [.c (.v (.slice A0 bs.length c0)), .c (.v (.slice A1 cuts.length c1))] 0 [] [oldF w0] rfl rfl old_sat ?_
  refine call_pu (fun β w hs => pu_of (awake_c w)) ?_
  refine tri_exit 0 P1 0 (E1 A1 cuts c1) (fun _ => []) (F1 w0) ?_ ?_
  · rintro ⟨ws, A5, c5, A6, c6⟩ ⟨h6, hok, hpl, hpc, hcm, had⟩
    simp only at h6 hok hpl hpc hcm had
    have hokW : ∀ f ∈ ws.map Fe.fr, okFr f := fun f hf => by obtain ⟨e, he, rfl⟩ := List.mem_map.1 hf; exact hok e he
    have hWl : (ws.map Fe.fr).length ≤ 6 := by rw [List.length_map]; exact h6
    refine call_con [] (fun β w hs => newReader_con w) ?_
    rintro v Fs ⟨b, f1, rfl, hf1, rfl⟩
    refine loop_rule 0 (E2 A1 cuts c1 b A6 ws.length c6) (fun _ => []) (F2 w0 A6 c6 ws) (P2 b (ws.map Fe.fr) cuts) (fun x => match x.all with | [] => 0 | _ => (cuts.length - x.z).toNat + 1) ⟨packs (ws.map Fe.fr), A5, c5, [], none, 0, [], f1, 0⟩
      ⟨hf1, ⟨0, Nat.zero_le _, rfl, rfl, stop0 hokW⟩, by show 0 + (packs (ws.map Fe.fr)).length ≤ 1818; omega, ⟨hpc, hcm⟩, (fun h => by cases h), fun _ => ⟨Int.le_refl _, Int.natCast_nonneg _⟩⟩ (Ent.mk' ⟨rfl, rfl, rfl, rfl, rfl, rfl, trivial⟩ rfl (fun β w hs => ?_)) g ?_
    · have h1 := hs.fuse [1] (bsF A5 (packs (ws.map Fe.fr))) (fun w hm => row_rd hm.one) (fun k hk => ⟨_, List.mem_cons_self, rd_sub_row k hk⟩)
      exact (((h1.noMem (bodF []) ⟨fun _ h => (by cases h), List.Pairwise.nil⟩ (fun k hk => by obtain ⟨f, hf, _⟩ := hk; cases hf)).nilRow ty_frame_Frame 2).perm [3, 0, 1, 2, 4, 5, 6])
    rintro ⟨all, A, c, got, B, d, l, f, z⟩ ⟨hrd, ⟨J, hJ, hgot, hall, hstop⟩, hlen, ⟨hcap, hcap2⟩, had2, hz⟩
    simp only at hrd hgot hall hstop hlen hcap hcap2 had2 hz
    refine BIf.dec (fun h0 => ?_) (fun h0 => ?_)
    · have hpos : 0 < all.length := by have h0 : (0 : Int) < all.length := h0; omega
      have hne : all ≠ [] := fun q => by rw [q] at hpos; exact absurd hpos (by decide)
      obtain ⟨hz1, hz2⟩ := hz hne
      refine BIf.dec (fun h1 => ?y) (fun h1 => ?n)
      case' y =>
        obtain ⟨j, rfl⟩ : ∃ j : Nat, z = j := ⟨z.toNat, by omega⟩
        have hj : j < cuts.length := by have h1 : (j : Int) < cuts.length := h1; omega
        obtain ⟨ad1, hA1⟩ := Bs.addr hC (by omega)
        refine ⟨ad1, j, hA1, rfl, hj, byte cuts[j], fun β w hs => Bs.cell (hC.old (hs.get 6 rfl)) hA1 hj, ?_⟩
        have hlt := cuts[j].toNat_lt
        refine ⟨(cuts[j].toNat : Int), wrap_i64 (by omega) (by omega), ?_⟩
        obtain ⟨n, hn2⟩ : ∃ n, min all.length cuts[j].toNat = n := ⟨_, rfl⟩
        refine ⟨(n : Int), by rw [mn, hn2], ?_⟩
        have hnl : n ≤ all.length := by omega
        have hnext : n = all.length ∨ (j : Int) < cuts.length := .inr h1
        generalize (j : Int) = z at *
        clear hn2
        have hn2 : True := trivial
      case' n =>
        obtain ⟨n, hn2⟩ : ∃ n, n = all.length := ⟨_, rfl⟩
        have hnl : n ≤ all.length := by omega
        have hnext : n = all.length ∨ z < cuts.length := .inl hn2
      all_goals
        have hnt : (all.take n).length = n := by simp; omega
        refine ⟨c, n, 0, (all.take n).length, c, _, rfl, (by first | rfl | (rw [hn2]; rfl)), rfl, Nat.le_refl _, by omega, Nat.zero_le _, hnt.symm, rfl, rfl, ?_⟩
        refine call_con [0] (hown := ⟨hrd.own, trivial⟩) (fun β w hs => feedO_c w (some b) (l, 0) f hrd (cutA A c 0 1) (all.take n) c
          ((hs.mem.take (js := [0, 3]) rfl).rdCut hrd.own (Bs.cutB (hs.get 3 rfl) (c := c) (j := n) hcap (Nat.zero_le _) hnl (by simp)) (cutA_D (fun _ => hpos))) (by omega) (by show l.length ≤ 8192; omega)) ?_
        rintro v Fs ⟨f1', rfl, hf1', rfl⟩
        have hfeed : feedO (some b) (l, 0) (all.take n) = n := by
          show feedN l 0 (all.take n) = n
          unfold feedN
          rw [if_pos rfl, hnt]
          omega
        have hfed : fedO (some b) (l, 0) (all.take n) = (l ++ all.take n, 0) := by
          have : feedN l 0 (all.take n) = n := hfeed
          show (l ++ (all.take n).take (feedN l 0 (all.take n)), (0 : Int)) = _
          rw [this, List.take_of_length_le (by omega)]
        rw [hfed] at hf1'
        rw [hfeed]
        refine BIf.not (BIf.dec (fun _ => ?_) (fun h => absurd (by first | rfl | rw [hn2] | (rw [hn2]; rfl)) h))
        refine ⟨c, all.length, n, (all.drop n).length, c - n, _, rfl, rfl, (by first | rfl | (rw [hn2]; rfl)), Nat.le_refl _, hcap, hnl, by simp, rfl, rfl, ?_⟩
        obtain ⟨j', l', hj', htake, hl', hstop'⟩ := take_parts b ((ws.map Fe.fr).drop J) 10 (l ++ all.take n) (fun x hx => hokW x (List.mem_of_mem_drop hx)) ⟨all.drop n, by rw [List.append_assoc, List.take_append_drop, hall]⟩ (by rw [List.length_drop]; omega)
        refine call_con [0] (hown := ⟨hf1'.own, trivial⟩) (fun β w hs => take_c w (some b) (l ++ all.take n, 0) f1' 10 (by decide) hf1' (hs.mem.take (js := [0]) rfl) (by show (l ++ all.take n).length ≤ 8192; rw [List.length_append]; omega)) ?_
        rintro v Fs ⟨A14, c14, fs, f2, rfl, had3, hfs, hfok, hf2, rfl⟩
        rw [htake] at hfs hf2
        have hgl : got.length ≤ 6 := by have := congrArg List.length hgot; rw [List.length_map, List.length_take] at this; omega
        have hfl : fs.length ≤ 6 := by have := congrArg List.length hfs; rw [List.length_map, List.length_take, List.length_drop] at this; omega
        refine ⟨3, got.length, got.length + fs.length, _, fs.flatMap Fe.cells, _, rfl, fun β w hs => row_rd (hs.get 0 rfl), cells_one fs, rfl, rfl, by rw [maxLen_eq]; omega, by show _ * 32 ≤ _; omega, ?_⟩
        intro A15 c15 r1 r2 r3
        refine ⟨_, rfl, ?_⟩
        have hle : (got ++ fs).length = got.length + fs.length := List.length_append
        have hfe : frsF A15 c15 (got ++ fs) = rowF ty_frame_Frame 2 (.slice A15 (got.length + fs.length) c15) (got.length + fs.length) (got.flatMap Fe.cells ++ fs.flatMap Fe.cells) := by
          simp only [frsF, hle, List.flatMap_append]
        have hp2 : l' ++ all.drop n = packs ((ws.map Fe.fr).drop (J + j')) := by
          have e1 : packs ((ws.map Fe.fr).drop J) = packs (((ws.map Fe.fr).drop J).take j') ++ packs ((ws.map Fe.fr).drop (J + j')) := by
            rw [← List.drop_drop]
            unfold packs
            rw [← List.flatMap_append, List.take_append_drop]
          have e2 : packs (((ws.map Fe.fr).drop J).take j') ++ (l' ++ all.drop n) = packs (((ws.map Fe.fr).drop J).take j') ++ packs ((ws.map Fe.fr).drop (J + j')) := by
            rw [← e1, ← hall, ← List.append_assoc, ← hl', List.append_assoc, List.take_append_drop]
          exact List.append_cancel_left e2
        have hll : l'.length ≤ l.length + n := by
          have := congrArg List.length hl'
          rw [List.length_append, List.length_append, hnt] at this
          omega
        refine ⟨⟨all.drop n, cutA A c n 1, c - n, got ++ fs, A15, c15, l', f2, IntKind.i64.wrap (z + 1)⟩, ⟨hf2, ⟨J + j', ?_, ?_, hp2, ?_⟩, ?_, ⟨?_, ?_⟩, ?_, ?_⟩, ?_, ?_⟩
        · rw [List.length_drop] at hj'; omega
        · show (got ++ fs).map Fe.fr = _
          rw [List.map_append, hgot, hfs, ← List.take_add]
        · rw [← List.drop_drop]; exact hstop'
        · show l'.length + (all.drop n).length ≤ 1818
          rw [List.length_drop]; omega
        · show (all.drop n).length ≤ c - n
          rw [List.length_drop]; omega
        · show c - n ≤ maxLen
          omega
        · intro hq
          cases A15 with
          | none =>
            obtain ⟨q1, q2⟩ := r3 rfl
            have q3 : got.length = 0 := by injection q1
            rw [hle] at hq
            omega
          | some ad => exact ⟨ad, rfl⟩
        · intro hne2
          have hne3 : all.drop n ≠ [] := hne2
          have hlt : n < all.length := by
            rcases Nat.lt_or_ge n all.length with q | q
            · exact q
            · exact absurd (List.drop_eq_nil_of_le q) hne3
          have hzl : z < cuts.length := hnext.resolve_left (by omega)
          show 0 ≤ IntKind.i64.wrap (z + 1) ∧ IntKind.i64.wrap (z + 1) ≤ cuts.length
          rw [wrap_i64 (by omega) (by omega)]
          omega
        · simp only
          obtain ⟨a0, ar, hal⟩ := List.exists_cons_of_ne_nil hne
          cases hd : all.drop n with
          | nil => first | exact Nat.succ_pos _ | (rw [hal]; exact Nat.succ_pos _)
          | cons x r =>
            have hlt : n < all.length := by
              rcases Nat.lt_or_ge n all.length with q | q
              · exact q
              · rw [List.drop_eq_nil_of_le q] at hd; cases hd
            have hzl : z < cuts.length := hnext.resolve_left (by omega)
            rw [wrap_i64 (by omega) (by omega)]
            show (cuts.length - (z + 1)).toNat + 1 < (cuts.length - z).toNat + 1
            omega
        · refine Ent.mk' ⟨rfl, rfl, rfl, rfl, ?_, rfl, trivial⟩ rfl (fun β w hs => ?_)
          · rw [hle]; rfl
          · have h1 := bodF_append hs 4 1 rfl rfl rfl
            have h2 := h1.sub 4 rfl rfl (bsF (cutA A c n 1) (all.drop n)) rfl (Bs.cutB (h1.get 4 rfl) (c := c) (j := all.length) hcap hnl (Nat.le_refl _) (by rw [← List.length_drop, List.take_length])) (cutA_D (fun _ => hpos))
            show Sat _ β 0 [] [f2, frsF A15 c15 (got ++ fs), bodF (got ++ fs), bsF (cutA A c n 1) (all.drop n), rfrF A6 c6 ws, bodF ws, oldF w0] w
            rw [hfe]
            exact h2.perm [3, 4, 1, 0, 6, 7, 8]
    · have hnil : all = [] := by
        have h0 : ¬ (0 : Int) < all.length := h0
        exact List.eq_nil_of_length_eq_zero (by omega)
      subst hnil
      rw [List.append_nil] at hall
      have hdrop : (ws.map Fe.fr).drop J = [] := by
        cases hd : (ws.map Fe.fr).drop J with
        | nil => rfl
        | cons x r =>
          have h1 := hstop.2 x r hd
          rw [hd] at hall
          have h2 := congrArg List.length hall
          simp only [packs, List.flatMap_cons, List.length_append] at h2
          omega
      obtain rfl : l = [] := hstop.1 hdrop
      have hgw : got.map Fe.fr = ws.map Fe.fr := by
        rw [hgot]
        conv => rhs; rw [← List.take_append_drop J (ws.map Fe.fr), hdrop, List.append_nil]
      have hgl : got.length = ws.length := by have := congrArg List.length hgw; simpa using this
      refine BIf.not (BIf.dec (fun _ => ?_) (fun h => absurd (congrArg Nat.cast hgl) h))
      refine call_pu (fun β w hs => waitingO_c w (some b) ([], 0) f hrd (hs.get 0 rfl)) ?_
      refine call_pu (fun β w hs => brokenO_c w (some b) ([], 0) f hrd (hs.get 0 rfl)) ?_
      refine loop_rule (ι := Nat) 0 (fun i => [(6, .c (.v (.slice A6 ws.length c6))), (13, .c (.v (.slice B got.length d))), (96, .c (.v (.int .i64 (got.length : Int)))), (97, .c (.v (.int .i64 (i : Int))))]) (fun _ => []) (fun _ => [f, frsF B d got, bodF got, bsF A [], rfrF A6 c6 ws, bodF ws, oldF w0])
        (fun i => i ≤ got.length) (fun i => got.length - i) 0 (Nat.zero_le _) (Ent.same ⟨rfl, rfl, rfl, rfl, trivial⟩ rfl) g ?_
      intro i hi
      refine BIf.dec (fun h1 => ?_) (fun h1 => ?_)
      · have hi1 : i < got.length := by omega
        have hi2 : i < ws.length := by omega
        obtain ⟨ad1, hB1⟩ := had2 (by show 0 < got.length; omega)
        obtain ⟨ad2, hB2⟩ := had (by show 0 < ws.length; omega)
        have hfr : got[i].fr = ws[i].fr := by
          have h2 : (got.map Fe.fr)[i]? = (ws.map Fe.fr)[i]? := by rw [hgw]
          rw [List.getElem?_map, List.getElem?_map, List.getElem?_eq_getElem hi1, List.getElem?_eq_getElem hi2] at h2
          exact Option.some.inj h2
        obtain ⟨x, hx⟩ : ∃ x, got[i] = x := ⟨_, rfl⟩
        obtain ⟨y, hy⟩ : ∃ y, ws[i] = y := ⟨_, rfl⟩
        refine draw_rule g p_ostiarylaw06_FrameParts_30 (by kernel_rfl) _ _ Sub.refl ?_
        refine ⟨ad1, i, hB1, rfl, hi1, got[i].cells, rfl, fun β w hs => Rd.elem (f := Fe.cells) (fun _ => rfl) (row_rd (hs.get 1 rfl)) hB1 hi1, ?_⟩
        refine ⟨ad2, i, hB2, rfl, hi2, ws[i].cells, rfl, fun β w hs => Rd.elem (f := Fe.cells) (fun _ => rfl) (row_rd (hs.get 4 rfl)) hB2 hi2, ?_⟩
        rw [hx, hy] at hfr ⊢
        obtain ⟨xk, xl, xA, xc⟩ := x
        obtain ⟨yk, yl, yA, yc⟩ := y
        obtain ⟨rfl, rfl⟩ : xk = yk ∧ xl = yl := by simpa [Fe.fr] using hfr
        refine call_pu (v := .bool true) (fun β w hs => ?_) ?_
        · have hb1 : Bs w xA xl := row_rd ((hs.get 2 rfl : (bodF got).p w).1 (Fe.F ⟨xk, xl, xA, xc⟩) (List.mem_map.2 ⟨_, by rw [← hx]; exact List.getElem_mem _, rfl⟩))
          have hb2 : Bs w yA xl := row_rd ((hs.get 5 rfl : (bodF ws).p w).1 (Fe.F ⟨xk, xl, yA, yc⟩) (List.mem_map.2 ⟨_, by rw [← hy]; exact List.getElem_mem _, rfl⟩))
          have h := pu_of (rsame_c w xk xk xA yA xl xl xc yc hb1 hb2)
          rw [decide_eq_true ⟨rfl, rfl⟩] at h
          exact h
        refine ⟨Sub.refl, ?_⟩
        refine ⟨((i + 1 : Nat) : Int), by rw [wrap_i64] <;> omega, ?_⟩
        exact ⟨i + 1, hi1, by omega, Ent.same ⟨rfl, rfl, rfl, rfl, trivial⟩ rfl⟩
      · intro β w' hs
        exact ⟨rfl, hs.chg⟩
  refine loop_rule (ι := List Fe × Option Addr × Nat × Option Addr × Nat) 0 (fun x => [(1, .c (.v (.slice A1 cuts.length c1))), (5, .c (.v (.slice x.2.1 (packs (x.1.map Fe.fr)).length x.2.2.1))), (6, .c (.v (.slice x.2.2.2.1 x.1.length x.2.2.2.2))), (19, .c (.v (.slice A0 bs.length c0))), (20, .c (.v (.int .i64 (bs.length : Int)))), (21, .c (.v (.int .i64 (x.1.length : Int))))]) (fun _ => []) (F1 w0)
    (fun x => P1 x ∧ x.1.length ≤ bs.length) (fun x => bs.length - x.1.length) ([], none, 0, none, 0) ⟨⟨Nat.zero_le _, fun _ h => (by cases h), Nat.le_refl _, Nat.le_refl _, Nat.zero_le _, fun h => (by cases h)⟩, Nat.zero_le _⟩
    (Ent.mk' ⟨rfl, rfl, rfl, rfl, rfl, rfl, trivial⟩ rfl (fun β w hs => (((hs.noMem (bodF []) ⟨fun _ h => (by cases h), List.Pairwise.nil⟩ (fun k hk => by obtain ⟨f, hf, _⟩ := hk; cases hf)).nilRow ty_ostiaryref06_Frame 2).nilRow ty_uint8 1))) g ?_
  rintro ⟨ws, A5, c5, A6, c6⟩ ⟨⟨h6, hok, hpl, hpc, hcm, had⟩, hi⟩
  simp only at h6 hok hpl hpc hcm had hi
  refine BIf.dec (fun h0 => ?_) (fun h0 => ?_)
  · have hi' : ws.length < bs.length := by have h0 : (ws.length : Int) < bs.length := h0; omega
    obtain ⟨ad, hA1⟩ : ∃ ad, A0 = some ad := by obtain ⟨ad, q, _⟩ := hA.2 (by omega); exact ⟨ad, q⟩
    obtain ⟨b, hb⟩ : ∃ b, bs[ws.length] = b := ⟨_, rfl⟩
    have hbin := hin b (by rw [← hb]; exact List.getElem_mem _)
    refine ⟨ad, ws.length, hA1, rfl, hi', b.cell, fun β w hs => by rw [← hb]; exact Rd.one (hA.old (hs.get 3 rfl)) hA1 hi', ?_⟩
    refine BIf.dec (fun h1 => ?_) (fun h1 => ?_)
    · exact EntX.of (ws, A5, c5, A6, c6) ⟨h6, hok, hpl, hpc, hcm, had⟩ (Ent.mk' ⟨rfl, rfl, rfl, trivial⟩ rfl (fun β w hs => hs))
    · have h1' : ws.length < 6 := by have h1 : ¬ (6 : Int) ≤ ws.length := h1; omega
      obtain ⟨k, hk⟩ : ∃ k : UInt8, k.toNat = ws.length + 1 := ⟨UInt8.ofNat (ws.length + 1), by rw [UInt8.toNat_ofNat']; omega⟩
      refine ⟨((ws.length + 1 : Nat) : Int), by show IntKind.i64.wrap (1 + (ws.length : Int)) = _; rw [wrap_i64] <;> omega, ?_⟩
      refine ⟨(k.toNat : Int), by rw [wrap_u8]; omega, ?_⟩
      refine call_con [] (fun β w hs => con_row (cut_c w b.A b.p b.c 300 (hbin.1.old (hs.get 3 rfl)) hbin.2 (by decide))) ?_
      rintro v Fs ⟨A7, c7, rfl, q1, q2, rfl⟩
      obtain ⟨p, hp⟩ : ∃ p, b.p.take 300 = p := ⟨_, rfl⟩
      have hpl3 : p.length ≤ 300 := by rw [← hp]; simp; omega
      rw [hp] at q1 ⊢
      have hfok : okFr (k, p) := by
        have hkb : kindB k = true := (kindB_iff k).2 (by omega)
        show (packF k p).2 = 0
        unfold packF; rw [if_neg (by rw [hkb]; decide), if_neg (by omega)]
      obtain ⟨_, _, hform⟩ := okFr_form hfok
      have hpkl : (packF k p).1.length = 3 + p.length := by rw [hform]; simp; omega
      refine call_con [] (fun β w hs => rpack_con w k A7 p c7 (row_rd (hs.get 0 rfl)) (by rw [lim_eq]; omega) hfok) ?_
      rintro v Fs ⟨A8, c8, rfl, q3, q4, rfl⟩
      have hle : (ws ++ [⟨k, p, A7, c7⟩] : List Fe).length = ws.length + 1 := by simp
      have hpk : packs ((ws ++ [⟨k, p, A7, c7⟩] : List Fe).map Fe.fr) = packs (ws.map Fe.fr) ++ (packF k p).1 := by simp [packs, Fe.fr]
      have hpkl2 : (packs ((ws ++ [⟨k, p, A7, c7⟩] : List Fe).map Fe.fr)).length = (packs (ws.map Fe.fr)).length + (3 + p.length) := by rw [hpk, List.length_append, hpkl]
      have hfe : ∀ A c, rfrF A c (ws ++ [⟨k, p, A7, c7⟩]) = rowF ty_ostiaryref06_Frame 2 (.slice A (ws.length + 1) c) (ws.length + 1) (ws.flatMap Fe.cells ++ [byte k, .slice A7 p.length c7]) := fun A c => by
        simp only [rfrF, hle, List.flatMap_append, List.flatMap_cons, List.flatMap_nil, List.append_nil, Fe.cells]
      have hok' : ∀ e ∈ (ws ++ [⟨k, p, A7, c7⟩] : List Fe), okFr e.fr := fun e he => by
        rcases List.mem_append.1 he with he | he
        · exact hok e he
        · obtain rfl := List.mem_singleton.1 he; exact hfok
      have hone : ∀ u ∈ [byte k, Value.slice A7 p.length c7], u.oneCell' = true := fun u hu => by
        simp only [List.mem_cons, List.not_mem_nil, or_false] at hu
        rcases hu with rfl | rfl <;> rfl
      have fin : ∀ (A9 A10 : Option Addr) (c9 c10 : Nat) (f8 fx : Fact) {n : Nat} {H : List Bk} {env : Env}, (packs (ws.map Fe.fr)).length + (packF k p).1.length ≤ c9 → c9 ≤ maxLen → (A10 = none → False) → EntE env [(1, .c (.v (.slice A1 cuts.length c1))), (5, .c (.v (.slice A9 ((packs (ws.map Fe.fr)).length + (packF k p).1.length) c9))), (6, .c (.v (.slice A10 (ws.length + 1) c10))), (19, .c (.v (.slice A0 bs.length c0))), (20, .c (.v (.int .i64 (bs.length : Int)))), (21, .c (.v (.int .i64 ((ws.length + 1 : Nat) : Int))))] →
          ∃ x : List Fe × Option Addr × Nat × Option Addr × Nat, (P1 x ∧ x.1.length ≤ bs.length) ∧ bs.length - x.1.length < bs.length - ws.length ∧ Ent (cx_ostiarylaw06_FrameParts w0 None_) n env H
            [fx, f8, browF ty_uint8 A7 p c7, rowF ty_uint8 1 (.slice A9 ((packs (ws.map Fe.fr)).length + (packF k p).1.length) c9) ((packs (ws.map Fe.fr)).length + (packF k p).1.length) ((packs (ws.map Fe.fr)).map byte ++ (packF k p).1.map byte), rowF ty_ostiaryref06_Frame 2 (.slice A10 (ws.length + 1) c10) (ws.length + 1) (ws.flatMap Fe.cells ++ [byte k, .slice A7 p.length c7]), bodF ws, oldF w0] 0
            [(1, .c (.v (.slice A1 cuts.length c1))), (5, .c (.v (.slice x.2.1 (packs (x.1.map Fe.fr)).length x.2.2.1))), (6, .c (.v (.slice x.2.2.2.1 x.1.length x.2.2.2.2))), (19, .c (.v (.slice A0 bs.length c0))), (20, .c (.v (.int .i64 (bs.length : Int)))), (21, .c (.v (.int .i64 (x.1.length : Int))))] [] (F1 w0 x) := by
        intro A9 A10 c9 c10 f8 fx n H env r1 r2 r3 hE
        have hl9 : (packs ((ws ++ [⟨k, p, A7, c7⟩] : List Fe).map Fe.fr)).length = (packs (ws.map Fe.fr)).length + (packF k p).1.length := by rw [hpk, List.length_append]
        refine ⟨(ws ++ [⟨k, p, A7, c7⟩], A9, c9, A10, c10), ⟨⟨?_, hok', ?_, ?_, r2, ?_⟩, ?_⟩, ?_, ?_⟩
        · show (ws ++ [⟨k, p, A7, c7⟩] : List Fe).length ≤ 6
          omega
        · show (packs ((ws ++ [⟨k, p, A7, c7⟩] : List Fe).map Fe.fr)).length ≤ 303 * (ws ++ [⟨k, p, A7, c7⟩] : List Fe).length
          rw [hpkl2, hle]; omega
        · show (packs ((ws ++ [⟨k, p, A7, c7⟩] : List Fe).map Fe.fr)).length ≤ c9
          rw [hl9]; exact r1
        · intro _
          cases A10 with
          | none => exact (r3 rfl).elim
          | some ad => exact ⟨ad, rfl⟩
        · show (ws ++ [⟨k, p, A7, c7⟩] : List Fe).length ≤ bs.length
          omega
        · show bs.length - (ws ++ [⟨k, p, A7, c7⟩] : List Fe).length < _
          omega
        · simp only [F1, hl9, hle]
          refine Ent.mk' hE rfl (fun β w hs => ?_)
          have h1 := (((bodF_snoc hs (e := ⟨k, p, A7, c7⟩) 5 2 rfl rfl rfl).perm [3, 4, 0, 5]).keepB (List.nil_sublist _)).lower (n' := 0)
          rw [hpk, hfe, ← List.map_append, browF, List.length_append] at *
          exact h1
      have hpl18 : (packs (ws.map Fe.fr)).length ≤ 1818 := by omega
      refine draw_rule g p_ostiarylaw06_FrameParts_11 (by kernel_rfl) _ [] (Sub.of (List.Sublist.refl _) (List.nil_sublist _)) ?_
      refine ⟨?_, ?_⟩
      · refine ⟨2, (packs (ws.map Fe.fr)).length, _, _, (packF k p).1.map byte, _, rfl, fun β w hs => row_rd (hs.get 0 rfl), bytes_one _, rfl, rfl, by rw [maxLen_eq]; omega, by show _ * 1 ≤ _; omega, ?_⟩
        intro A9 c9 r1 r2 _
        refine ⟨Sub.of (List.Sublist.refl _) (List.nil_sublist _), ?_⟩
        intro b0
        refine ⟨Sub.of (List.Sublist.refl _) (List.nil_sublist _), ?_⟩
        refine ⟨4, ws.length, _, _, [byte k, .slice A7 p.length c7], _, rfl, fun β w hs => row_rd (hs.get 0 rfl), hone, rfl, rfl, by rw [maxLen_eq]; omega, by show _ * 32 ≤ _; omega, ?_⟩
        intro A10 c10 r3 r4 r5
        refine ⟨Sub.of (List.Sublist.refl _) (List.nil_sublist _), ?_⟩
        refine ⟨((ws.length + 1 : Nat) : Int), by show IntKind.i64.wrap ((ws.length : Int) + 1) = _; rw [wrap_i64] <;> omega, ?_⟩
        exact fin A9 A10 c9 c10 _ _ r1 r2 (fun q => absurd (r5 q).2 (by decide)) ⟨rfl, rfl, rfl, rfl, rfl, rfl, trivial⟩
      · intro b0
        refine ⟨Sub.of (List.Sublist.refl _) (List.nil_sublist _), ?_⟩
        refine ⟨3, (packs (ws.map Fe.fr)).length, _, _, (packF k p).1.map byte, _, rfl, fun β w hs => row_rd (hs.get 1 rfl), bytes_one _, rfl, rfl, by rw [maxLen_eq]; omega, by show _ * 1 ≤ _; omega, ?_⟩
        intro A9 c9 r1 r2 _
        refine ⟨Sub.of (List.Sublist.refl _) (List.nil_sublist _), ?_⟩
        refine ⟨4, ws.length, _, _, [byte k, .slice A7 p.length c7], _, rfl, fun β w hs => row_rd (hs.get 0 rfl), hone, rfl, rfl, by rw [maxLen_eq]; omega, by show _ * 32 ≤ _; omega, ?_⟩
        intro A10 c10 r3 r4 r5
        refine ⟨Sub.of (List.Sublist.refl _) (List.nil_sublist _), ?_⟩
        refine ⟨((ws.length + 1 : Nat) : Int), by show IntKind.i64.wrap ((ws.length : Int) + 1) = _; rw [wrap_i64] <;> omega, ?_⟩
        exact fin A9 A10 c9 c10 _ _ r1 r2 (fun q => absurd (r5 q).2 (by decide)) ⟨rfl, rfl, rfl, rfl, rfl, rfl, trivial⟩
  · exact EntX.of (ws, A5, c5, A6, c6) ⟨h6, hok, hpl, hpc, hcm, had⟩ (Ent.mk' ⟨rfl, rfl, rfl, trivial⟩ rfl (fun β w hs => hs))
end Go.Proofs.Ytlbnmjjbjjmifaa.Sx
