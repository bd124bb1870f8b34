/- Texts joined: Rt1, Rt2, Rt3, Rt4, Rt5, Tl2, Tl3, TlG, BxL, RgR, TrR, RgN, RgW, RgS, RgV, RgD, Rg0, Rg1, Kn1, RgP, RgS2, RgA, RfR, RfR2, RfR3, RpL, Flip, SxAs, SmP, RpD, RgE, EqU, LenX, NamL, Hex, Nam1, Nam2, Nam3, Nam4, Nam5, Nam6, Nam7, Nam8, Nam9, NamP, NmT, Mk1, Mk2, BxT, RpP, RpS, SxArg, Laid, Laid2. -/
import Derived.Test.YtjlpcjpeljlbeaaGreatDoorMRingPlays3
import Derived.Test.YtjlpcjpeljlbeaaGreatDoorMRingPlays2
import Derived.Below
import Derived.OpenShut
import Derived.ChangeArms
import Derived.LaidMore
set_option linter.unusedVariables false
set_option linter.unusedSimpArgs false
/- The reference's terms: lists of numbers compared, terms compared. -/
namespace Go.Proofs.YtjlpcjpeljlbeaaGreatDoor.Sx
open Go
attribute [local irreducible] Calls

theorem rints_c (w : World) (A B : Option Addr) (l m : List Nat) (c d : Nat) (hl : Rd 1 A l.length (ints l) w) (hm : Rd 1 B m.length (ints m) w) (hn : l.length ≤ 1000000) :
    Pu Tryz.prog n_ostiaryref05_ints #[.slice A l.length c, .slice B m.length d] w (.bool (decide (l = m))) := by
  have g := good_ostiaryref05_ints w (Un [])
  refine con_of_sx (cx := cx_ostiaryref05_ints w (Un [])) g b_ostiaryref05_ints rfl rfl (β := Va.z) [.c (.v (.slice A l.length c)), .c (.v (.slice B m.length d))] 0 [] [oldF w] rfl rfl (old_sat rfl) ?_
  refine BIf.not (BIf.dec (fun h0 => ?_) (fun h0 => ?_))
  · have hlen : l.length = m.length := by omega
    refine loop_rule 0 (fun k : Nat => [(0, .c (.v (.slice A l.length c))), (1, .c (.v (.slice B m.length d))), (12, .c (.v (.int .i64 l.length))), (13, .c (.v (.int .i64 k)))]) (fun _ => []) (fun _ => [oldF w])
      (fun k => k ≤ l.length ∧ l.take k = m.take k) (fun k => l.length - k) 0 ⟨Nat.zero_le _, by simp⟩ (Ent.same ⟨rfl, rfl, rfl, rfl, trivial⟩ rfl) g ?_
    rintro k ⟨hk, htk⟩
    refine BIf.dec (fun hlt => ?_) (fun hge => ?_)
    · have hlt0 : (k : Int) < l.length := hlt
      have hkl : k < l.length := by omega
      have hkm : k < m.length := by omega
      obtain ⟨x, hx, _⟩ := at_lt hkl
      obtain ⟨y, hy, _⟩ := at_lt hkm
      obtain ⟨ad, hA, _⟩ := hl.2 (by omega)
      obtain ⟨bd, hB, _⟩ := hm.2 (by omega)
      refine draw_rule g p_ostiaryref05_ints_6 (by kernel_rfl) [] [oldF w] Sub.refl ?_
      refine ⟨ad, k, hA, rfl, hkl, .int .i64 (x : Int), fun β w' hs => Rd.cell1 (by have h := Rd.old hl (hs.get 0 rfl); rw [hA] at h; exact h) (ints_at hx), ?_⟩
      refine ⟨bd, k, hB, rfl, hkm, .int .i64 (y : Int), fun β w' hs => Rd.cell1 (by have h := Rd.old hm (hs.get 0 rfl); rw [hB] at h; exact h) (ints_at hy), ?_⟩
      have hsn : ∀ (l : List Nat) (x : Nat), l[k]? = some x → l.take (k + 1) = l.take k ++ [x] := fun l x h => by rw [List.take_add_one, h]; rfl
      refine BIf.not (BIf.dec (fun he => ?_) (fun he => ?_))
      · have he0 : x = y := by have : (x : Int) = (y : Int) := he; omega
        refine ⟨((k + 1 : Nat) : Int), by rw [wrap_i64 (by omega) (by omega)]; rfl, ?_⟩
        refine ⟨k + 1, ⟨hkl, by rw [hsn l x hx, hsn m y hy, htk, he0]⟩, by omega, Ent.same ⟨rfl, rfl, rfl, rfl, trivial⟩ rfl⟩
      · have he0 : ¬ x = y := fun q => he (by rw [q])
        intro β w' hs
        refine hs.fin [] ⟨?_, rfl⟩
        show Value.bool false = _
        congr 1
        refine (decide_eq_false fun q => he0 ?_).symm
        rw [q, hy] at hx
        exact (Option.some.inj hx).symm
    · have hge0 : ¬ (k : Int) < l.length := hge
      obtain rfl : k = l.length := by omega
      rw [List.take_length, List.take_of_length_le (by omega)] at htk
      intro β w' hs
      refine hs.fin [] ⟨?_, rfl⟩
      show Value.bool true = _
      congr 1
      exact (decide_eq_true htk).symm
  · intro β w' hs
    refine hs.fin [] ⟨?_, rfl⟩
    show Value.bool false = _
    congr 1
    exact (decide_eq_false (fun h => h0 (by rw [h]))).symm
open Classical in
theorem rterm_c (w : World) (s t : Bx.Term) (a b : TA) (hs : TRd s a w) (ht : TRd t b w) (hz : TSz s) :
    Pu Tryz.prog n_ostiaryref05_Same #[.agg (termV s a).toArray, .agg (termV t b).toArray] w (.bool (decide (s = t))) := by
  have g := good_ostiaryref05_Same w (Un [])
  have hlist := hz.list
  refine con_of_sx (cx := cx_ostiaryref05_Same w (Un [])) g b_ostiaryref05_Same rfl rfl (β := Va.z) [.agg (termS s a), .agg (termS t b)] 0 [] [oldF w] rfl rfl (old_sat rfl) ?_
  have no : ∀ {n : Nat} {H : List Bk}, ¬ s = t → ∀ β w', Sat (cx_ostiaryref05_Same w (Un [])) β n H [oldF w] w' → Fin w [] (fun u Fs => u = .bool (decide (s = t)) ∧ Fs = []) (.bool false) w' := fun h β w' hs => by
    refine (hs.keepB (List.nil_sublist _)).fin [] ⟨?_, rfl⟩
    show Value.bool false = _
    congr 1
    exact (decide_eq_false h).symm
  obtain ⟨k1, hk1⟩ : ∃ k1 : Int, (s.kind : Int) = k1 := ⟨_, rfl⟩
  obtain ⟨k2, hk2⟩ : ∃ k2 : Int, (t.kind : Int) = k2 := ⟨_, rfl⟩
  obtain ⟨r1, hr1⟩ : ∃ r1 : Int, (s.rounds : Int) = r1 := ⟨_, rfl⟩
  obtain ⟨r2, hr2⟩ : ∃ r2 : Int, (t.rounds : Int) = r2 := ⟨_, rfl⟩
  rw [show termS s a = [.v (.int .i64 k1), .v (.slice a.k s.key.length a.kc), .v (.slice a.t s.text.length a.tc), .v (.int .i64 r1), .v (.slice a.l s.list.length a.lc), .v (.slice a.m s.mask.length a.mc)] by rw [← hk1, ← hr1]; rfl, show termS t b = [.v (.int .i64 k2), .v (.slice b.k t.key.length b.kc), .v (.slice b.t t.text.length b.tc), .v (.int .i64 r2), .v (.slice b.l t.list.length b.lc), .v (.slice b.m t.mask.length b.mc)] by rw [← hk2, ← hr2]; rfl]
  conv => whnf
  generalize h1 : decide (k1 = k2) = b1
  cases b1 with
  | false => exact no (fun q => of_decide_eq_false h1 (by rw [← hk1, ← hk2, q]))
  | true =>
  obtain ⟨b2, h2⟩ : ∃ x, decide (s.key = t.key) = x := ⟨_, rfl⟩
  refine call_pu (v := .bool b2) (fun β w' hs' => by
    have h := pu_of (same_c w' a.k b.k s.key t.key a.kc b.kc (Rd.old hs.hk (hs'.get 0 rfl)) (Rd.old ht.hk (hs'.get 0 rfl)))
    rw [h2] at h
    exact h) ?_
  cases b2 with
  | false => exact no (fun q => of_decide_eq_false h2 (by rw [q]))
  | true =>
  obtain ⟨b3, h3⟩ : ∃ x, decide (s.text = t.text) = x := ⟨_, rfl⟩
  refine call_pu (v := .bool b3) (fun β w' hs' => by
    have h := pu_of (same_c w' a.t b.t s.text t.text a.tc b.tc (Rd.old hs.ht (hs'.get 0 rfl)) (Rd.old ht.ht (hs'.get 0 rfl)))
    rw [h3] at h
    exact h) ?_
  cases b3 with
  | false => exact no (fun q => of_decide_eq_false h3 (by rw [q]))
  | true =>
  conv => whnf
  generalize h4 : decide (r1 = r2) = b4
  cases b4 with
  | false => exact no (fun q => of_decide_eq_false h4 (by rw [← hr1, ← hr2, q]))
  | true =>
  obtain ⟨b5, h5⟩ : ∃ x, decide (s.list = t.list) = x := ⟨_, rfl⟩
  refine call_pu (v := .bool b5) (fun β w' hs' => by
    have h := rints_c w' a.l b.l s.list t.list a.lc b.lc (Rd.old hs.hl (hs'.get 0 rfl)) (Rd.old ht.hl (hs'.get 0 rfl)) (by omega)
    rw [h5] at h
    exact h) ?_
  cases b5 with
  | false => exact no (fun q => of_decide_eq_false h5 (by rw [q]))
  | true =>
  obtain ⟨b6, h6⟩ : ∃ x, decide (s.mask = t.mask) = x := ⟨_, rfl⟩
  refine call_pu (v := .bool b6) (fun β w' hs' => by
    have h := pu_of (same_c w' a.m b.m s.mask t.mask a.mc b.mc (Rd.old hs.hm (hs'.get 0 rfl)) (Rd.old ht.hm (hs'.get 0 rfl)))
    rw [h6] at h
    exact h) ?_
  cases b6 with
  | false => exact no (fun q => of_decide_eq_false h6 (by rw [q]))
  | true =>
  intro β w' hs'
  refine (hs'.keepB (List.nil_sublist _)).fin [] ⟨?_, rfl⟩
  show Value.bool true = _
  congr 1
  refine (decide_eq_true ?_).symm
  have e1 : s.kind = t.kind := by have := of_decide_eq_true h1; omega
  have e4 : s.rounds = t.rounds := by have := of_decide_eq_true h4; omega
  have e2 := of_decide_eq_true h2
  have e3 := of_decide_eq_true h3
  have e5 := of_decide_eq_true h5
  have e6 := of_decide_eq_true h6
  obtain ⟨sk, skk, st, sr, sl, sm⟩ := s
  obtain ⟨tk, tkk, tt, tr, tl, tm⟩ := t
  simp only at e1 e2 e3 e4 e5 e6
  subst e1 e2 e3 e4 e5 e6
  rfl
end Go.Proofs.YtjlpcjpeljlbeaaGreatDoor.Sx

/- The reference's box in memory; a term's handle. -/
namespace Go.Proofs.YtjlpcjpeljlbeaaGreatDoor.Sx
open Go
attribute [local irreducible] Calls

def rCells (B : Bx.Box) (y : Lay) : List Value := [.bool B.sym, .slice y.A B.L.length y.c, .bool B.full]
def rbxFs (b : Nat) (B : Bx.Box) (y : Lay) : List Fact := [bkF b ty_ostiaryref05_Box (rCells B y), rowF ty_ostiaryref05_Term 6 (.slice y.A B.L.length y.c) B.L.length (termsV y.ts), partsF y.ts]
/-- The reference's box, whole. -/
def rbxF (b : Nat) (B : Bx.Box) (y : Lay) : Fact := sepF (rbxFs b B y)
def rtagOut (b : Nat) (r : List UInt8 × Bx.Box) (v : Value) (Fs : List Fact) : Prop :=
  ∃ A c y', v = .slice A 32 c ∧ 32 ≤ c ∧ c ≤ maxLen ∧ y'.ts.map (·.1) = r.2.L ∧ Fs = [browF ty_uint8 A r.1 c, rbxF b r.2 y']
theorem place_at {t : Bx.Term} : ∀ {L : List Bx.Term} {k : Nat}, L[k]? = some t → t ∉ L.take k → Bx.place t L = some k
  | x :: r, 0, h, _ => by
    obtain rfl : x = t := by simpa using h
    simp [Bx.place]
  | x :: r, k + 1, h, hn => by
    have hx : ¬ x = t := fun q => hn (by simp [q])
    have h2 := place_at (L := r) (k := k) (by simpa using h) (fun q => hn (by simp [q]))
    simp only [Bx.place, if_neg hx, h2]
    rfl
open Classical in
theorem rtag_c (w : World) (b : Nat) (B : Bx.Box) (y : Lay) (t : Bx.Term) (a : TA) (hts : y.ts.map (·.1) = B.L) (hL : B.L.length ≤ 4096) (hsz : ∀ t ∈ B.L, TSz t) (hs : TSz t) (hm : Mem w [rbxF b B y, partsF [(t, a)]]) :
    Con Tryz.prog n_ostiaryref05_Tag #[ptrB b, .agg (termV t a).toArray] w [rbxF b B y, partsF [(t, a)]] (rtagOut b (B.tag t)) := by
  have g := good_ostiaryref05_Tag w (Un [rbxF b B y, partsF [(t, a)]])
  have hs0 : Sat (cx_ostiaryref05_Tag w (Un [rbxF b B y, partsF [(t, a)]])) Va.z 0 [] [rbxF b B y, partsF [(t, a)]] w := hm.sat0 rfl (fun f hf _ k hk => ⟨f, hf, hk⟩)
  have hs1 := hs0.unsep 0 rfl
  have hlen : y.ts.length = B.L.length := by rw [← hts, List.length_map]
  refine con_of_sx (cx := cx_ostiaryref05_Tag w (Un [rbxF b B y, partsF [(t, a)]])) g b_ostiaryref05_Tag rfl rfl (β := Va.z) [.c (.v (ptrB b)), .agg (termS t a)] 0 [] (rbxFs b B y ++ [partsF [(t, a)]]) rfl rfl hs1 ?_
  refine ⟨.slice y.A B.L.length y.c, fun β w' hs' => bk_cell (hs'.get 0 rfl) (o := 1) rfl, ?_⟩
  refine loop_rule 1 (fun k : Nat => [(0, .c (.v (ptrB b))), (3, .c (.p 0 0)), (10, .c (.v (.slice y.A B.L.length y.c))), (11, .c (.v (.int .i64 B.L.length))), (12, .c (.v (.int .i64 k)))]) (fun _ => [⟨0, ty_ostiaryref05_Term, termS t a⟩]) (fun _ => rbxFs b B y ++ [partsF [(t, a)]])
    (fun k => k ≤ B.L.length ∧ t ∉ B.L.take k) (fun k => B.L.length - k) 0 ⟨Nat.zero_le _, by simp⟩ (Ent.same ⟨rfl, rfl, rfl, rfl, rfl, trivial⟩ rfl) g ?_
  rintro k ⟨hk, hno⟩
  refine BIf.dec (fun hlt => ?_) (fun hge => ?_)
  · have hlt0 : (k : Int) < B.L.length := hlt
    have hkl : k < B.L.length := by omega
    obtain ⟨q, hq, hqm⟩ := at_lt (l := y.ts) (k := k) (by omega)
    have hqL : B.L[k]? = some q.1 := by rw [← hts, List.getElem?_map, hq]; rfl
    have hqB : q.1 ∈ B.L := List.mem_of_getElem? hqL
    have hrd : ∀ w', (rowF ty_ostiaryref05_Term 6 (.slice y.A B.L.length y.c) B.L.length (termsV y.ts)).p w' → Rd 6 y.A B.L.length (termsV y.ts) w' := fun w' h => row_rd h
    obtain ⟨ad, hA, _⟩ := (hrd w (hs1.get 1 rfl)).2 (by omega)
    refine ⟨ad, k, hA, rfl, hkl, ?_⟩
    refine ⟨termV q.1 q.2, rfl, fun β w' hs' => ?_, ?_⟩
    · have h := hrd w' (hs'.get 1 rfl)
      rw [← hlen] at h
      obtain ⟨hil, hie⟩ := List.getElem?_eq_some_iff.1 hq
      have h2 := Rd.elem (f := fun p : Bx.Term × TA => termV p.1 p.2) (fun _ => rfl) h hA hil
      rw [hie] at h2
      exact h2
    refine call_pu (fun β w' hs' => rterm_c w' q.1 t q.2 a ((show (partsF y.ts).p w' from hs'.get 2 rfl) q hqm) ((show (partsF [(t, a)]).p w' from hs'.get 3 rfl) (t, a) (List.mem_singleton.2 rfl)) (hsz _ hqB)) ?_
    refine BIf.dec (fun he => ?_) (fun he => ?_)
    · have he0 : q.1 = t := he
      refine ⟨((k + 1 : Nat) : Int), by rw [wrap_i64 (by omega) (by omega)]; rfl, ?_⟩
      refine call_con [] (fun β w' hs' => rhandle_c w' (k + 1) (by omega)) ?_
      rintro v Fs ⟨A1, c1, rfl, q1, q2, rfl⟩
      have htag : B.tag t = (Bx.handle (k + 1), B) := by unfold Bx.Box.tag; rw [place_at (by rw [hqL, he0]) hno]
      intro β w' hs'
      have hs2 := (hs'.keepB (List.nil_sublist _)).sep [1, 2, 3] rfl ⟨rfl, rfl, rfl, trivial⟩
      exact hs2.fin [1, 0] ⟨A1, c1, y, rfl, q1, q2, by rw [htag]; exact hts, by rw [htag]; rfl⟩
    · have he0 : ¬ q.1 = t := he
      refine ⟨((k + 1 : Nat) : Int), by rw [wrap_i64 (by omega) (by omega)]; rfl, ?_⟩
      refine ⟨k + 1, ⟨hkl, ?_⟩, by omega, ?_⟩
      · rw [List.take_add_one, hqL]
        intro q'
        rcases List.mem_append.1 q' with q' | q'
        · exact hno q'
        · exact he0 (List.mem_singleton.1 q').symm
      · exact Ent.mk' ⟨rfl, rfl, rfl, rfl, rfl, trivial⟩ rfl (fun β w' hs' => (hs'.keepB (List.sublist_cons_self _ _)).lower)
  have hge0 : ¬ (k : Int) < B.L.length := hge
  obtain rfl : k = B.L.length := by omega
  rw [List.take_length] at hno
  have hpl := place_not hno
  refine ⟨.slice y.A B.L.length y.c, fun β w' hs' => bk_cell (hs'.get 0 rfl) (o := 1) rfl, ?_⟩
  refine BIf.dec (fun hge => ?_) (fun hlt => ?_)
  · have hge0 : (4096 : Int) ≤ (B.L.length : Int) := hge
    have hge1 : 4096 ≤ B.L.length := by omega
    refine ⟨_, fun β w' hs' => hs'.bkSet 0 (o := 2) (us := [.bool true]) rfl (by show 3 ≤ 3; decide) (one_mem rfl), ?_⟩
    refine ⟨32, 32, rfl, rfl, Nat.le_refl _, by decide, by decide, ?_⟩
    intro b2
    have htag : B.tag t = (Bx.noughts, { B with full := true }) := by unfold Bx.Box.tag; rw [hpl]; simp only; rw [if_pos hge1]
    intro β w' hs'
    have hs2 := (hs'.keepB (List.nil_sublist _)).sep [1, 2, 3] rfl ⟨rfl, rfl, rfl, trivial⟩
    exact hs2.fin [1, 0] ⟨some ⟨b2, 0, none⟩, 32, y, rfl, Nat.le_refl _, by decide, by rw [htag]; exact hts, by rw [htag]; rfl⟩
  have hlt0 : ¬ (4096 : Int) ≤ (B.L.length : Int) := hlt
  have hlt1 : ¬ 4096 ≤ B.L.length := by omega
  have htag : B.tag t = (Bx.handle (B.L.length + 1), { B with L := B.L ++ [t] }) := by unfold Bx.Box.tag; rw [hpl]; simp only; rw [if_neg hlt1]
  have hone : ∀ u ∈ termsV y.ts, u.oneCell' = true := by
    intro u hu
    obtain ⟨p, _, hp⟩ := List.mem_flatMap.1 hu
    exact termV_one _ _ u hp
  -- behind the store
  have fin_ : ∀ {A' : Option Addr} {c' : Nat} {β : Va} {w' : World} {n : Nat} {H : List Bk} {F : List Fact} {A9 : Option Addr} {c9 : Nat} (_ : 32 ≤ c9) (_ : c9 ≤ maxLen) (js : List Nat), nodupB js = true → takeIx F js = [browF ty_uint8 A9 (Bx.handle (B.L.length + 1)) c9, bkF b ty_ostiaryref05_Box [.bool B.sym, .slice A' (B.L.length + 1) c', .bool B.full], rowF ty_ostiaryref05_Term 6 (.slice A' (B.L.length + 1) c') (B.L.length + 1) (termsV (y.ts ++ [(t, a)])), partsF y.ts, partsF [(t, a)]] →
      Sat (cx_ostiaryref05_Tag w (Un [rbxF b B y, partsF [(t, a)]])) β n H F w' → Fin w [rbxF b B y, partsF [(t, a)]] (rtagOut b (B.tag t)) (.slice A9 32 c9) w' := by
    intro A' c' β w' n H F A9 c9 q1 q2 js hnd hjs hs'
    have hs2 := (hs'.keepB (List.nil_sublist _)).perm js hnd
    rw [hjs] at hs2
    have hs3 := hs2.fuse [3, 4] (partsF (y.ts ++ [(t, a)])) (fun w hm => ?_) (fun k hk => ?_) rfl ⟨rfl, rfl, trivial⟩
    · have hs4 := hs3.sep [2, 3, 0] rfl ⟨rfl, rfl, rfl, trivial⟩
      refine hs4.fin [1, 0] ⟨A9, c9, ⟨A', c', 0, y.ts ++ [(t, a)]⟩, rfl, q1, q2, ?_, ?_⟩
      · rw [htag]
        show (y.ts ++ [(t, a)]).map (·.1) = B.L ++ [t]
        rw [List.map_append, hts]
        rfl
      · rw [htag]
        have e : rbxF b { B with L := B.L ++ [t] } ⟨A', c', 0, y.ts ++ [(t, a)]⟩ = sepF [bkF b ty_ostiaryref05_Box [.bool B.sym, .slice A' (B.L.length + 1) c', .bool B.full], rowF ty_ostiaryref05_Term 6 (.slice A' (B.L.length + 1) c') (B.L.length + 1) (termsV (y.ts ++ [(t, a)])), partsF (y.ts ++ [(t, a)])] := by
          simp [rbxF, rbxFs, rCells]
        show _ = [browF ty_uint8 A9 (Bx.handle (B.L.length + 1)) c9, rbxF b { B with L := B.L ++ [t] } ⟨A', c', 0, y.ts ++ [(t, a)]⟩]
        rw [e]
        rfl
    · have hm' : Mem w [partsF y.ts, partsF [(t, a)]] := hm
      intro p hp
      rcases List.mem_append.1 hp with hp | hp
      · exact hm'.fact (partsF y.ts) (by simp) p hp
      · exact hm'.fact (partsF [(t, a)]) (by simp) p hp
    · show Un [partsF y.ts, partsF [(t, a)]] k
      obtain ⟨p, hp, hk⟩ := hk
      rcases List.mem_append.1 hp with hp | hp
      · exact ⟨partsF y.ts, by simp, p, hp, hk⟩
      · exact ⟨partsF [(t, a)], by simp, p, hp, hk⟩
  refine draw_rule g p_ostiaryref05_Tag_10 (by kernel_rfl) [⟨0, ty_ostiaryref05_Term, termS t a⟩] [bkF b ty_ostiaryref05_Box (rCells B y)] (subPerm [0]) ?_
  refine ⟨.slice y.A B.L.length y.c, fun β w' hs' => bk_cell (hs'.get 0 rfl) (o := 1) rfl, ?_⟩
  have hcap : B.L.length + 1 ≤ maxLen := by rw [maxLen_eq]; omega
  have hbx : ∀ (A' : Option Addr) (c' : Nat), putAll (rCells B y) 1 [.slice A' (B.L.length + 1) c'] = [.bool B.sym, .slice A' (B.L.length + 1) c', .bool B.full] := fun _ _ => rfl
  -- the last steps: the row is stored, the handle told
  refine ⟨?_, ?_⟩
  · intro b1
    refine ⟨subPerm [1], ?_⟩
    refine ⟨?_, ?_⟩
    · refine ⟨0, 0, B.L.length, [], termsV y.ts, termsV y.ts, rfl, fun β w' hs' => row_rd (hs'.get 2 rfl), hone, Nat.zero_add _, rfl, by omega, by show B.L.length * 112 ≤ _; omega, ?_⟩
      intro A1 c1 q1 q2 q3
      refine ⟨subPerm [1], ?_⟩
      intro b7
      refine ⟨subPerm [2], ?_⟩
      refine ⟨1, B.L.length, B.L.length + 1, termsV y.ts, termV t a, termsV (y.ts ++ [(t, a)]), rfl, fun β w' hs' => row_rd (hs'.get 0 rfl), termV_one t a, rfl, by simp [termsV], hcap, by show (B.L.length + 1) * 112 ≤ _; omega, ?_⟩
      intro A' c' q4 q5 q6
      refine ⟨subPerm [2], ?_⟩
      refine ⟨subPerm [2], ?_⟩
      refine ⟨_, fun β w' hs' => hs'.bkSet 2 (o := 1) (us := [.slice A' (B.L.length + 1) c']) rfl (by show 2 ≤ 3; decide) (one_mem rfl), ?_⟩
      rw [hbx]
      refine ⟨.slice A' (B.L.length + 1) c', fun β w' hs' => bk_cell (hs'.get 2 rfl) (o := 1) rfl, ?_⟩
      refine call_con [] (fun β w' hs' => rhandle_c w' (B.L.length + 1) (by omega)) ?_
      rintro v Fs ⟨A9, c9, rfl, r1, r2, rfl⟩
      intro β w' hs'
      exact fin_ r1 r2 [0, 3, 2, 5, 6] rfl rfl hs'
    · intro b7
      refine ⟨subPerm [2], ?_⟩
      refine ⟨1, 0, B.L.length, [], termsV y.ts, termsV y.ts, rfl, fun β w' hs' => row_rd (hs'.get 3 rfl), hone, Nat.zero_add _, rfl, by omega, by show B.L.length * 112 ≤ _; omega, ?_⟩
      intro A1 c1 q1 q2 q3
      refine ⟨subPerm [2], ?_⟩
      refine ⟨1, B.L.length, B.L.length + 1, termsV y.ts, termV t a, termsV (y.ts ++ [(t, a)]), rfl, fun β w' hs' => row_rd (hs'.get 0 rfl), termV_one t a, rfl, by simp [termsV], hcap, by show (B.L.length + 1) * 112 ≤ _; omega, ?_⟩
      intro A' c' q4 q5 q6
      refine ⟨subPerm [2], ?_⟩
      refine ⟨subPerm [2], ?_⟩
      refine ⟨_, fun β w' hs' => hs'.bkSet 2 (o := 1) (us := [.slice A' (B.L.length + 1) c']) rfl (by show 2 ≤ 3; decide) (one_mem rfl), ?_⟩
      rw [hbx]
      refine ⟨.slice A' (B.L.length + 1) c', fun β w' hs' => bk_cell (hs'.get 2 rfl) (o := 1) rfl, ?_⟩
      refine call_con [] (fun β w' hs' => rhandle_c w' (B.L.length + 1) (by omega)) ?_
      rintro v Fs ⟨A9, c9, rfl, r1, r2, rfl⟩
      intro β w' hs'
      exact fin_ r1 r2 [0, 3, 2, 5, 6] rfl rfl hs'
  · intro b7
    refine ⟨subPerm [1], ?_⟩
    intro b1
    refine ⟨subPerm [2], ?_⟩
    refine ⟨0, 0, B.L.length, [], termsV y.ts, termsV y.ts, rfl, fun β w' hs' => row_rd (hs'.get 3 rfl), hone, Nat.zero_add _, rfl, by omega, by show B.L.length * 112 ≤ _; omega, ?_⟩
    intro A1 c1 q1 q2 q3
    refine ⟨subPerm [2], ?_⟩
    refine ⟨0, B.L.length, B.L.length + 1, termsV y.ts, termV t a, termsV (y.ts ++ [(t, a)]), rfl, fun β w' hs' => row_rd (hs'.get 1 rfl), termV_one t a, rfl, by simp [termsV], hcap, by show (B.L.length + 1) * 112 ≤ _; omega, ?_⟩
    intro A' c' q4 q5 q6
    refine ⟨subPerm [2], ?_⟩
    refine ⟨subPerm [2], ?_⟩
    refine ⟨_, fun β w' hs' => hs'.bkSet 2 (o := 1) (us := [.slice A' (B.L.length + 1) c']) rfl (by show 2 ≤ 3; decide) (one_mem rfl), ?_⟩
    rw [hbx]
    refine ⟨.slice A' (B.L.length + 1) c', fun β w' hs' => bk_cell (hs'.get 2 rfl) (o := 1) rfl, ?_⟩
    refine call_con [] (fun β w' hs' => rhandle_c w' (B.L.length + 1) (by omega)) ?_
    rintro v Fs ⟨A9, c9, rfl, r1, r2, rfl⟩
    intro β w' hs'
    exact fin_ r1 r2 [0, 3, 1, 5, 6] rfl rfl hs'
end Go.Proofs.YtjlpcjpeljlbeaaGreatDoor.Sx

/- The reference's box: hashes, sums with a key, stretched passwords. -/
namespace Go.Proofs.YtjlpcjpeljlbeaaGreatDoor.Sx
open Go
attribute [local irreducible] Calls

theorem row_D {size e n c k : Nat} {A : Option Addr} {xs : List Value} (h : (rdF size A n xs).D k) : (rowF e size (.slice A n c) n xs).D k := by
  obtain ⟨_, ad, rfl, rfl⟩ := h
  rfl
/-- A term that has two rows. -/
theorem Sat.part2o {cx : Cx} {β : Va} {n : Nat} {H : List Bk} {F : List Fact} {w : World} (h : Sat cx β n H F w) (js : List Nat) (t : Bx.Term) (a : TA) (hl : t.list = []) (hm : t.mask = []) (hj : takeIx F js = [browF ty_uint8 a.k t.key a.kc, browF ty_uint8 a.t t.text a.tc]) (hn : nodupB js = true := by rfl) : Sat cx β n H (partsF [(t, a)] :: dropIx js 0 F) w :=
  h.fuse js (partsF [(t, a)]) (fun w hw p hp => by
    rw [hj] at hw
    obtain rfl := List.mem_singleton.1 hp
    exact ⟨row_rd (hw.fact (browF ty_uint8 a.k t.key a.kc) (by simp)), row_rd (hw.fact (browF ty_uint8 a.t t.text a.tc) (by simp)), by rw [hl]; exact rd_nil w a.l, by rw [hm]; exact Bs.nil w a.m⟩) (fun k hk => by
    rw [hj]
    obtain ⟨p, hp, hk⟩ := hk
    obtain rfl := List.mem_singleton.1 hp
    rcases hk with hk | hk | hk | hk
    · exact ⟨_, List.mem_cons_self, row_D hk⟩
    · exact ⟨browF ty_uint8 a.t t.text a.tc, by simp, row_D hk⟩
    · rw [hl] at hk
      exact absurd hk.1 (by simp)
    · rw [hm] at hk
      exact absurd hk.1 (by simp)) hn (by rw [hj]; exact ⟨rfl, rfl, trivial⟩)
theorem rbx_bk {b : Nat} {B : Bx.Box} {y : Lay} {w : World} (h : (rbxF b B y).p w) : (bkF b ty_ostiaryref05_Box (rCells B y)).p w := h.1 _ (by simp [rbxFs])
theorem rmac_c (w : World) (b : Nat) (B : Bx.Box) (y : Lay) (K P : Option Addr) (key text : List UInt8) (cK cP : Nat) (hts : y.ts.map (·.1) = B.L) (hL : B.L.length ≤ 4096) (hsz : ∀ t ∈ B.L, TSz t) (hk : key.length ≤ 1000000) (hn : text.length ≤ 1000000) (hm : Mem w [rbxF b B y, bsF K key, bsF P text, oddF 8]) :
    Con Tryz.prog n_ostiaryref05_Mac #[ptrB b, .slice K key.length cK, .slice P text.length cP] w [rbxF b B y] (rtagOut b (macB B key text)) := by
  have g := good_ostiaryref05_Mac w (Un [rbxF b B y])
  have hs0 : Sat (cx_ostiaryref05_Mac w (Un [rbxF b B y])) Va.z 0 [] [rbxF b B y, bsF K key, bsF P text, oddF 8] w := hm.sat0 rfl (ownIn (Gs := [rbxF b B y]) (fun f hf => by
    simp only [List.mem_cons, List.not_mem_nil, or_false] at hf
    rcases hf with rfl | rfl | rfl | rfl <;> rfl))
  refine con_of_sx (cx := cx_ostiaryref05_Mac w (Un [rbxF b B y])) g b_ostiaryref05_Mac rfl rfl (β := Va.z) [.c (.v (ptrB b)), .c (.v (.slice K key.length cK)), .c (.v (.slice P text.length cP))] 0 [] _ rfl rfl hs0 ?_
  cases hsym : B.sym with
  | true =>
    have e : macB B key text = B.tag (macT key text) := by unfold macB; rw [hsym]; rfl
    rw [e]
    refine ⟨.bool true, fun β w' hs => bk_cell (rbx_bk (hs.get 0 rfl)) (o := 0) (by simp [rCells, hsym]), ?_⟩
    refine call_con [] (fun β w' hs => copyC w' K key cK (hs.get 1 rfl) (by rw [lim_eq]; omega)) ?_
    rintro v Fs ⟨A1, c1, rfl, q1, q2, rfl⟩
    refine call_conS [] (fun β w' hs => copyC w' P text cP (hs.get 3 rfl) (by rw [lim_eq]; omega)) ?_
    rintro v Fs ⟨A2, c2, rfl, q3, q4, rfl⟩
    refine ⟨_, _, fun β w' hs => hs.part2o [1, 0] (macT key text) ⟨A1, A2, none, none, c1, c2, 0, 0⟩ rfl rfl rfl, ?_⟩
    refine call_con [1, 0] (R := rtagOut b (B.tag (macT key text))) (fun β w' hs => rtag_c w' b B y (macT key text) ⟨A1, A2, none, none, c1, c2, 0, 0⟩ hts hL hsz (macT_sz hk hn) (hs.mem.take (js := [1, 0]) rfl)) ?_
    rintro v Fs ⟨A3, c3, y2, rfl, r1, r2, r3, rfl⟩
    intro β w' hs
    exact hs.fin [0, 1] ⟨A3, c3, y2, rfl, r1, r2, r3, rfl⟩
  | false =>
    have e : macB B key text = (hmL key text, B) := by unfold macB; rw [hsym]; rfl
    rw [e]
    refine ⟨.bool false, fun β w' hs => bk_cell (rbx_bk (hs.get 0 rfl)) (o := 0) (by simp [rCells, hsym]), ?_⟩
    refine call_con [] (fun β w' hs => rhsum_c w' K P key text cK cP (hs.get 1 rfl) (hs.get 2 rfl) hk hn (hs.get 3 rfl)) ?_
    rintro v Fs ⟨A2, c2, rfl, r1, r2, rfl⟩
    intro β w' hs
    exact hs.fin [0, 1] ⟨A2, c2, y, rfl, r1, r2, hts, rfl⟩
end Go.Proofs.YtjlpcjpeljlbeaaGreatDoor.Sx

/- The reference's box: a tag, opened. -/
namespace Go.Proofs.YtjlpcjpeljlbeaaGreatDoor.Sx
open Go
attribute [local irreducible] Calls

end Go.Proofs.YtjlpcjpeljlbeaaGreatDoor.Sx

/- The reference's box: two tags, turned. -/
namespace Go.Proofs.YtjlpcjpeljlbeaaGreatDoor.Sx
open Go
attribute [local irreducible] Calls

/-- The numbers up to k that stand in just one of two lists. -/
def symL (l1 l2 : List Nat) (k : Nat) : List Nat := (List.range' 1 k).filter fun n => decide (n ∈ l1) != decide (n ∈ l2)
theorem symL_len (l1 l2 : List Nat) (k : Nat) : (symL l1 l2 k).length ≤ k := by
  have h := List.length_filter_le (fun n => decide (n ∈ l1) != decide (n ∈ l2)) (List.range' 1 k)
  rw [List.length_range'] at h
  exact h
theorem symL_mix {l1 l2 : List Nat} {N : Nat} (d1 : l1.Nodup) (d2 : l2.Nodup) (h1 : ∀ n ∈ l1, 1 ≤ n ∧ n ≤ N) (h2 : ∀ n ∈ l2, 1 ≤ n ∧ n ≤ N) : symL l1 l2 N = mixL l1 l2 := by
  have hp : (symL l1 l2 N).Perm (notIn l1 l2 ++ notIn l2 l1) := by
    refine (List.perm_ext_iff_of_nodup ?_ ?_).2 (fun n => ?_)
    · exact List.Nodup.sublist List.filter_sublist (List.nodup_range' 1)
    · refine List.nodup_append.2 ⟨List.Nodup.sublist List.filter_sublist d1, List.Nodup.sublist List.filter_sublist d2, ?_⟩
      intro x hx y hy q
      subst q
      have a := (List.mem_filter.1 hx).2
      have b := (List.mem_filter.1 hy).1
      simp [b] at a
    · simp only [symL, notIn, List.mem_filter, List.mem_append, List.mem_range'_1]
      have k1 := h1 n
      have k2 := h2 n
      by_cases a : n ∈ l1 <;> by_cases b : n ∈ l2 <;> simp [a, b]
      · have := k1 a; omega
      · have := k2 b; omega
  have hs : (mixL l1 l2).Perm (notIn l1 l2 ++ notIn l2 l1) := List.mergeSort_perm _ _
  refine List.Perm.eq_of_pairwise (le := fun a b => a ≤ b) (fun a b _ _ p q => Nat.le_antisymm p q) ?_ ?_ (hp.trans hs.symm)
  · exact ((List.pairwise_lt_range' 1).sublist List.filter_sublist).imp (fun h => Nat.le_of_lt h)
  · have h := List.pairwise_mergeSort (le := fun x y : Nat => decide (x ≤ y)) (by simp only [decide_eq_true_eq]; omega) (by simp only [Bool.or_eq_true, decide_eq_true_eq]; omega) (notIn l1 l2 ++ notIn l2 l1)
    exact h.imp (fun h => of_decide_eq_true h)
theorem Con.grow {P : Program} {k : FuncId} {args : Array Value} {w : World} {Gs Gs' : List Fact} {R : Value → List Fact → Prop} (hsub : ∀ k, Un Gs k → Un Gs' k) (h : Con P k args w Gs R) : Con P k args w Gs' R :=
  Calls.mono h fun _ _ ⟨v, he, Fs, hR, hc, hm, ho, hD⟩ => ⟨v, he, Fs, hR, hc.mono (fun i _ => hsub i), hm, ho, fun f hf k hk => (hD f hf k hk).imp_left (hsub k)⟩
/-- What a tag that is opened has. -/
def OkN (B : Bx.Box) (l : List Nat) (m : List UInt8) : Prop := OkS l m ∧ l.Nodup ∧ ∀ n ∈ l, 1 ≤ n ∧ n ≤ B.L.length
end Go.Proofs.YtjlpcjpeljlbeaaGreatDoor.Sx

/- What a box holds, plainly: tags that are opened have one form; turned, they have it still. -/
namespace Go.Proofs.YtjlpcjpeljlbeaaGreatDoor.Sx
open Go
attribute [local irreducible] Calls

/-- A sum that may be turned. -/
structure Nf (B : Bx.Box) (l : List Nat) (m : List UInt8) : Prop where
  mask : m.length = 32
  sorted : l.Pairwise (· < ·)
  nums : ∀ n ∈ l, 1 ≤ n ∧ n ≤ B.L.length
  base : ∀ n ∈ l, ∀ u, B.L[n - 1]? = some u → u.kind ≠ 4
structure K4 (B : Bx.Box) (t : Bx.Term) : Prop where
  nf : Nf B t.list t.mask
  form : t = turnT t.list t.mask
  one : ¬ (t.list.length = 1 ∧ t.mask = Bx.noughts)
  raw : ¬ (t.list = [] ∧ ¬ t.mask.take 28 = Bx.front)
structure BInv (B : Bx.Box) : Prop where
  sz : ∀ t ∈ B.L, TSz t
  nodup : B.L.Nodup
  k4 : ∀ t ∈ B.L, t.kind = 4 → K4 B t
  plain : B.sym = false → B.L = []
  len : B.L.length ≤ 4096
structure Ext (B B' : Bx.Box) : Prop where
  sym : B'.sym = B.sym
  full : B'.full = B.full
  len : B'.L.length ≤ B.L.length + 1
  inv : BInv B'
  mono : ∀ h r, B.opens h = some r → B'.opens h = some r
theorem Ext.refl {B : Bx.Box} (h : BInv B) : Ext B B := ⟨rfl, rfl, Nat.le_succ _, h, fun _ _ h => h⟩
theorem Nf.grow {B : Bx.Box} {l : List Nat} {m : List UInt8} (t : Bx.Term) (h : Nf B l m) : Nf { B with L := B.L ++ [t] } l m := by
  refine ⟨h.mask, h.sorted, fun n hn => ?_, fun n hn u hu => ?_⟩
  · have := h.nums n hn
    simp only [List.length_append, List.length_cons, List.length_nil]
    omega
  · have := h.nums n hn
    refine h.base n hn u ?_
    simp only at hu
    rw [List.getElem?_append_left (by omega)] at hu
    exact hu
theorem Nf.ok {B : Bx.Box} {l : List Nat} {m : List UInt8} (hi : BInv B) (h : Nf B l m) : OkN B l m := by
  have hnd : l.Nodup := h.sorted.imp (fun q => Nat.ne_of_lt q)
  refine ⟨⟨?_, fun n hn => ?_, h.mask⟩, hnd, h.nums⟩
  · have e := symL_mix (l2 := []) hnd List.nodup_nil h.nums (fun n hn => (by cases hn))
    have e2 : (mixL l []).length = l.length := by
      rw [mixL, sortN_len]
      have e3 : notIn l [] = l := List.filter_eq_self.2 (fun a _ => by simp)
      rw [e3]
      simp [notIn]
    have := symL_len l [] B.L.length
    rw [e, e2] at this
    have := hi.len
    omega
  · have := h.nums n hn
    have := hi.len
    omega
theorem opens_grow {B : Bx.Box} {t : Bx.Term} {h : List UInt8} {r : List Nat × List UInt8} (h0 : B.opens h = some r) : ({ B with L := B.L ++ [t] } : Bx.Box).opens h = some r := by
  unfold Bx.Box.opens at h0 ⊢
  split at h0
  · rename_i h32
    rw [if_pos h32]
    split at h0
    · rename_i hs
      rw [if_pos hs]
      split at h0
      · cases h0
      · rename_i hn
        have hn' : ¬ (Bx.num (h.drop 28) < 1 ∨ (B.L ++ [t]).length < Bx.num (h.drop 28)) := by
          rw [List.length_append]
          omega
        rw [if_neg hn']
        simp only
        rw [List.getElem?_append_left (by omega)]
        exact h0
    · rename_i hs
      rw [if_neg hs]
      exact h0
  · cases h0
end Go.Proofs.YtjlpcjpeljlbeaaGreatDoor.Sx

/- A sum's one tag. -/
namespace Go.Proofs.YtjlpcjpeljlbeaaGreatDoor.Sx
open Go
attribute [local irreducible] Calls

theorem K4.grow {B : Bx.Box} {t : Bx.Term} (u : Bx.Term) (h : K4 B t) : K4 { B with L := B.L ++ [u] } t := ⟨h.nf.grow u, h.form, h.one, h.raw⟩
theorem tag_ext {B : Bx.Box} (hi : BInv B) (hs : B.sym = true) (hl : B.L.length < 4096) {t : Bx.Term} (hz : TSz t) (h4 : t.kind = 4 → K4 B t) : Ext B (B.tag t).2 ∧ ∃ k, (B.tag t).1 = Bx.handle (k + 1) ∧ (B.tag t).2.L[k]? = some t := by
  unfold Bx.Box.tag
  cases hp : Bx.place t B.L with
  | some i => exact ⟨Ext.refl hi, i, rfl, Bx.place_some hp⟩
  | none =>
    simp only
    rw [if_neg (by omega)]
    refine ⟨⟨rfl, rfl, by simp, ⟨fun u hu => ?_, ?_, fun u hu hk => ?_, fun q => ?_, ?_⟩, fun h r q => opens_grow q⟩, B.L.length, rfl, by simp⟩
    · rcases List.mem_append.1 hu with hu | hu
      · exact hi.sz u hu
      · obtain rfl := List.mem_singleton.1 hu
        exact hz
    · refine List.nodup_append.2 ⟨hi.nodup, List.nodup_cons.2 ⟨fun q => (by cases q), List.nodup_nil⟩, fun a ha b hb q => ?_⟩
      obtain rfl := List.mem_singleton.1 hb
      exact Bx.place_none hp (q ▸ ha)
    · rcases List.mem_append.1 hu with hu | hu
      · exact (hi.k4 u hu hk).grow t
      · obtain rfl := List.mem_singleton.1 hu
        exact (h4 hk).grow u
    · rw [show ({ B with L := B.L ++ [t] } : Bx.Box).sym = B.sym from rfl, hs] at q
      cases q
    · simp only [List.length_append, List.length_cons, List.length_nil]
      omega
theorem mem_mix {l1 l2 : List Nat} {n : Nat} (h : n ∈ mixL l1 l2) : n ∈ l1 ∨ n ∈ l2 := by
  have h3 : n ∈ notIn l1 l2 ++ notIn l2 l1 := (List.mergeSort_perm _ _).mem_iff.1 h
  rcases List.mem_append.1 h3 with q | q
  · exact .inl (List.mem_filter.1 q).1
  · exact .inr (List.mem_filter.1 q).1
theorem Nf.mix {B : Bx.Box} {l1 l2 : List Nat} {m1 m2 : List UInt8} (h1 : Nf B l1 m1) (h2 : Nf B l2 m2) : Nf B (mixL l1 l2) (Bx.xorB m1 m2) := by
  have d1 : l1.Nodup := h1.sorted.imp (fun q => Nat.ne_of_lt q)
  have d2 : l2.Nodup := h2.sorted.imp (fun q => Nat.ne_of_lt q)
  refine ⟨by rw [xorB_len, h1.mask, h2.mask]; exact Nat.min_self _, ?_, fun n hn => ?_, fun n hn => ?_⟩
  · rw [← symL_mix d1 d2 h1.nums h2.nums]
    exact (List.pairwise_lt_range' 1).sublist List.filter_sublist
  · rcases mem_mix hn with q | q
    · exact h1.nums n q
    · exact h2.nums n q
  · rcases mem_mix hn with q | q
    · exact h1.base n q
    · exact h2.base n q
theorem xor_comm (a b : List UInt8) : Bx.xorB a b = Bx.xorB b a := by
  unfold Bx.xorB
  rw [List.zipWith_comm]
  congr 1
  funext x y
  exact UInt8.xor_comm _ _
end Go.Proofs.YtjlpcjpeljlbeaaGreatDoor.Sx

/- A box that has told something is a box. -/
namespace Go.Proofs.YtjlpcjpeljlbeaaGreatDoor.Sx
open Go
attribute [local irreducible] Calls

theorem len_cons {l : List Value} {n : Nat} (h : l.length = n + 1) : ∃ a r, l = a :: r ∧ r.length = n := by
  cases l with
  | nil => cases h
  | cons a r => exact ⟨a, r, rfl, by simpa using h⟩
theorem cutC (w : World) (A : Option Addr) (l : List UInt8) (c k : Nat) (hr : Bs w A l) (hc : l.length ≤ c) (hn : k ≤ lim) :
    Con Tryz.prog n_ostiaryref01_Cut #[.slice A l.length c, .int .i64 k] w [] fun v Fs => ∃ A' c', v = .slice A' (l.take k).length c' ∧ (l.take k).length ≤ c' ∧ c' ≤ maxLen ∧ Fs = [browF ty_uint8 A' (l.take k) c'] := con_row (cut_c w A l c k hr hc hn)
theorem cut_D {A : Option Addr} {l m : List UInt8} {c i k : Nat} (hm : m.length ≤ l.length) (h : (bsF (cutA A c i 1) m).D k) : (bsF A l).D k := by
  obtain ⟨h0, ad, hA, rfl⟩ := h
  have h0' : 0 < m.length * 1 := h0
  unfold cutA at hA
  split at hA
  · exact ⟨by show 0 < l.length * 1; omega, ad, hA, rfl⟩
  · cases A with
    | none => cases hA
    | some a =>
      have hA' : a.add (i * 1) = ad := by simpa using hA
      exact ⟨by show 0 < l.length * 1; omega, a, rfl, by rw [← hA']; unfold Addr.add; split <;> rfl⟩
/-- What a call of a box is told: new, open, and nothing else is shut. -/
def GoodT (B : Bx.Box) (r : List UInt8 × Bx.Box) : Prop := Ext B r.2 ∧ r.1.length = 32 ∧ ∃ q, r.2.opens r.1 = some q
theorem tag_good {B : Bx.Box} (hi : BInv B) (hs : B.sym = true) (hl : B.L.length < 4096) {t : Bx.Term} (hz : TSz t) (h4 : t.kind ≠ 4) : GoodT B (B.tag t) := by
  obtain ⟨he, k, hk, hkt⟩ := tag_ext hi hs hl hz (fun q => absurd q h4)
  refine ⟨he, by rw [hk]; rfl, ?_⟩
  rw [hk]
  have hlen := he.inv.len
  have hlt := (List.getElem?_eq_some_iff.1 hkt).1
  exact ⟨_, (opens_h (he.sym.trans hs) (by omega) (by omega) (by omega) hkt).trans (if_neg h4)⟩
theorem raw_good {B : Bx.Box} (hi : BInv B) (hs : B.sym = false) {h : List UInt8} (hh : h.length = 32) : GoodT B (h, B) :=
  ⟨Ext.refl hi, hh, _, Bx.opens_raw hh (fun q => by rw [hs] at q; cases q.1)⟩
theorem mac_good {B : Bx.Box} (hi : BInv B) (hl : B.L.length < 4096) {k t : List UInt8} (hk : k.length ≤ 1000000) (ht : t.length ≤ 1000000) : GoodT B (macB B k t) := by
  cases hs : B.sym with
  | true => rw [show macB B k t = B.tag (macT k t) by unfold macB; rw [hs]; rfl]; exact tag_good hi hs hl (macT_sz hk ht) (by show ¬ 2 = 4; decide)
  | false => rw [show macB B k t = (hmL k t, B) by unfold macB; rw [hs]; rfl]; exact raw_good hi hs (hmL_len k t)
end Go.Proofs.YtjlpcjpeljlbeaaGreatDoor.Sx

/- A box's calls: what is told has its length. -/
namespace Go.Proofs.YtjlpcjpeljlbeaaGreatDoor.Sx
open Go
attribute [local irreducible] Calls

/-- What a box tells, and the box behind it. -/
def outL (F : Bx.Box → Lay → Fact) (r : List UInt8 × Bx.Box) (v : Value) (Fs : List Fact) : Prop :=
  ∃ A c y', v = .slice A r.1.length c ∧ r.1.length ≤ c ∧ c ≤ maxLen ∧ y'.ts.map (·.1) = r.2.L ∧ Fs = [browF ty_uint8 A r.1 c, F r.2 y']
theorem boxOut_L {b : Nat} {r : List UInt8 × Bx.Box} {v : Value} {Fs : List Fact} (h : r.1.length = 32) (k : boxOut b r v Fs) : outL (bxF b) r v Fs := by
  obtain ⟨A, c, y', rfl, h1, h2, h3, rfl⟩ := k
  exact ⟨A, c, y', by rw [h], by rw [h]; exact h1, h2, h3, rfl⟩
theorem rtagOut_L {b : Nat} {r : List UInt8 × Bx.Box} {v : Value} {Fs : List Fact} (h : r.1.length = 32) (k : rtagOut b r v Fs) : outL (rbxF b) r v Fs := by
  obtain ⟨A, c, y', rfl, h1, h2, h3, rfl⟩ := k
  exact ⟨A, c, y', by rw [h], by rw [h]; exact h1, h2, h3, rfl⟩
theorem one_part (A : Option Addr) (l : List UInt8) (c : Nat) : partsT [(A, l, c)] = l := by simp [partsT]
theorem macL_c (w : World) (b : Nat) (B : Bx.Box) (y : Lay) (K : Option Addr) (key : List UInt8) (cK : Nat) (b0 : Nat) (A : Option Addr) (l : List UInt8) (c : Nat) (hts : y.ts.map (·.1) = B.L) (hi : BInv B) (hL : B.L.length < 4096) (hk : key.length ≤ 1000000) (hn : l.length ≤ 1000000) (hm : Mem w [bxF b B y, partF (some ⟨b0, 0, none⟩) [(A, l, c)], bsF K key, oddF 2, firstF 0]) :
    Con Tryz.prog n_box_Box_Mac #[ptrB b, .slice K key.length cK, .slice (some ⟨b0, 0, none⟩) 1 1] w [bxF b B y] (outL (bxF b) (macB B key l)) := by
  have k := macP_c w b B y K key cK b0 [(A, l, c)] 1 hts (by omega) hk (by simp) (Nat.le_refl 1) (by show 1 ≤ 1000; decide) (by rw [one_part]; exact hn) hm
  rw [one_part] at k
  exact k.mono fun v Fs h => boxOut_L (mac_good hi hL hk hn).2.1 h
theorem rmacL_c (w : World) (b : Nat) (B : Bx.Box) (y : Lay) (K P : Option Addr) (key text : List UInt8) (cK cP : Nat) (hts : y.ts.map (·.1) = B.L) (hi : BInv B) (hL : B.L.length < 4096) (hk : key.length ≤ 1000000) (hn : text.length ≤ 1000000) (hm : Mem w [rbxF b B y, bsF K key, bsF P text, oddF 8]) :
    Con Tryz.prog n_ostiaryref05_Mac #[ptrB b, .slice K key.length cK, .slice P text.length cP] w [rbxF b B y] (outL (rbxF b) (macB B key text)) :=
  (rmac_c w b B y K P key text cK cP hts (by omega) hi.sz hk hn hm).mono fun v Fs h => rtagOut_L (mac_good hi hL hk hn).2.1 h
end Go.Proofs.YtjlpcjpeljlbeaaGreatDoor.Sx

/- A ring's new epoch. -/
namespace Go.Proofs.YtjlpcjpeljlbeaaGreatDoor.Sx
open Go
attribute [local irreducible] Calls

structure RgOk (r : Rg) : Prop where
  rise : (r.ks.map (·.e)).Pairwise (· < ·)
  le : ∀ k ∈ r.ks, k.e ≤ r.epoch
  len : r.ks.length ≤ r.room
  room : r.room ≤ 8
  master : r.master.length ≤ 64
  ep : r.epoch < 98
def keyS : ByteArray := ⟨#[107, 101, 121, 32]⟩
def keyT (e : Nat) : ByteArray := keyS ++ decS e
/-- A ring with a key more. -/
def Rg.more (r : Rg) (A : Option Addr) (c : Nat) (p : List UInt8) : Rg := { r with epoch := r.epoch + 1, ks := r.ks ++ [⟨r.epoch + 1, A, c, p⟩] }
/-- Without the eldest, if they are too many. -/
def Rg.cut (r : Rg) : Rg := if r.room < r.ks.length then { r with ks := r.ks.tail } else r
theorem decS_size {u : Nat} (hu : u < 100) : (decS u).size ≤ 2 := by
  have h : ∀ u : _root_.Fin 100, (decS u.1).size ≤ 2 := by decide +kernel
  exact h ⟨u, hu⟩
theorem more_look {r : Rg} (hok : RgOk r) : ilook r.ml ((r.epoch + 1 : Nat) : Int) = none := by
  rw [Rg.ml, key_look]
  have : (r.ks.find? fun k => decide ((k.e : Int) = ((r.epoch + 1 : Nat) : Int))) = none := by
    refine List.find?_eq_none.2 fun k hk => ?_
    have := hok.le k hk
    simp
    omega
  rw [this]
  rfl
theorem iput_end : ∀ {l : MLI} {s : Int} {v : Value}, ilook l s = none → iput l s v = l ++ [(s, v)]
  | [], _, _, _ => rfl
  | (k, u) :: r, s, v, h => by
    simp only [ilook] at h
    split at h
    · cases h
    · rename_i hne
      simp only [iput, if_neg hne, List.cons_append]
      rw [iput_end h]
theorem more_rise {r : Rg} (hok : RgOk r) {A : Option Addr} {c : Nat} {p : List UInt8} : (r.more A c p).rise = (r.more A c p).es := by
  have h1 : ((r.ks ++ [(⟨r.epoch + 1, A, c, p⟩ : RKey)]).map (·.e)).Pairwise (· < ·) := by
    rw [List.map_append, List.pairwise_append]
    refine ⟨hok.rise, List.pairwise_singleton _ _, fun x hx y hy => ?_⟩
    obtain ⟨k, hk, rfl⟩ := List.mem_map.1 hx
    obtain rfl := List.mem_singleton.1 hy
    have := hok.le k hk
    show k.e < r.epoch + 1
    omega
  have h2 := List.pairwise_map.1 h1
  unfold Rg.rise
  refine List.mergeSort_of_pairwise (List.pairwise_map.2 (h2.imp fun {a b} q => ?_))
  simp
  omega
set_option maxHeartbeats 2000000 in
theorem rotate_c (w : World) (r : Rg) (B : Bx.Box) (y : Lay) (hok : RgOk r) (hts : y.ts.map (·.1) = B.L) (hi : BInv B) (hL : B.L.length < 4000) (hm : Mem w [rgF r, bxF r.bx B y, oddF 2, firstF 0]) :
    Con Tryz.prog n_ring_Ring_Rotate #[ptrR r.b] w [rgF r, bxF r.bx B y] fun v Fs => ∃ A c y', v = .tuple #[.int .u64 ((r.epoch + 1 : Nat) : Int), .int .i64 0] ∧ y'.ts.map (·.1) = (macB B r.master (keyT (r.epoch + 1)).data.toList).2.L ∧
      Fs = [rgF (r.more A c (macB B r.master (keyT (r.epoch + 1)).data.toList).1).cut, bxF r.bx (macB B r.master (keyT (r.epoch + 1)).data.toList).2 y'] := by
  have g := good_ring_Ring_Rotate w (Un [rgF r, bxF r.bx B y])
  have hml := maxLen_eq
  have hs0 : Sat (cx_ring_Ring_Rotate w (Un [rgF r, bxF r.bx B y])) Va.z 0 [] [rgF r, bxF r.bx B y, oddF 2, firstF 0] w := hm.sat0 rfl (ownIn (Gs := [rgF r, bxF r.bx B y]) (fun f hf => by
    simp only [List.mem_cons, List.not_mem_nil, or_false] at hf
    rcases hf with rfl | rfl <;> rfl))
  have hs1 := hs0.unsep 0 rfl
  obtain ⟨e, he⟩ : ∃ e, r.epoch = e := ⟨_, rfl⟩
  have hep := hok.ep
  have hma := hok.master
  refine con_of_sx (cx := cx_ring_Ring_Rotate w (Un [rgF r, bxF r.bx B y])) g b_ring_Ring_Rotate rfl rfl (β := Va.z) [.c (.v (ptrR r.b))] 0 [] _ rfl rfl hs1 ?_
  obtain ⟨x, hx⟩ : ∃ x : Int, (r.epoch : Int) = x := ⟨_, rfl⟩
  obtain ⟨x1, hx1⟩ : ∃ x1 : Int, ((r.epoch + 1 : Nat) : Int) = x1 := ⟨_, rfl⟩
  refine ⟨.int .u64 x, fun β w' hs => by rw [← hx]; exact cell_bk (hs.get 0 rfl) (o := 4) rfl, ?_⟩
  refine BIf.dec (fun h => absurd h (show ¬ (4294967296 : Int) ≤ x by omega)) (fun _ => ?_)
  refine ⟨.int .u64 x, fun β w' hs => by rw [← hx]; exact cell_bk (hs.get 0 rfl) (o := 4) rfl, ?_⟩
  refine ⟨x1, by rw [wrap_u64']; omega, ?_⟩
  refine ⟨_, fun β w' hs => hs.bkSet 0 (o := 4) (us := [.int .u64 x1]) rfl (by show 5 ≤ 5; decide) (one_mem rfl), ?_⟩
  have hds := decS_size (u := r.epoch + 1) (by omega)
  have hks : keyS.size = 4 := rfl
  have hkl : (keyT (r.epoch + 1)).data.toList.length ≤ 10 := by show (keyS ++ decS (r.epoch + 1)).size ≤ 10; rw [ByteArray.size_append]; omega
  refine draw_rule g p_ring_Ring_Rotate_6 (by kernel_rfl) [⟨0, ty_ptr_ring_Ring, [.v (ptrR r.b)]⟩] [bkF r.b ty_ring_Ring (putAll r.vs 4 [.int .u64 x1])] (subPerm [0]) ?_
  refine ⟨.map (some r.m), fun β w' hs => cell_bk (hs.get 0 rfl) (o := 3) rfl, ?_⟩
  refine ⟨.int .u64 x1, fun β w' hs => cell_bk (hs.get 0 rfl) (o := 4) rfl, ?_⟩
  refine ⟨.pointer (some ⟨r.bx, 0, none⟩), fun β w' hs => cell_bk (hs.get 0 rfl) (o := 0) rfl, ?_⟩
  refine ⟨.slice r.mA r.master.length r.mc, fun β w' hs => cell_bk (hs.get 0 rfl) (o := 1) rfl, ?_⟩
  refine ⟨.int .u64 x1, fun β w' hs => cell_bk (hs.get 0 rfl) (o := 4) rfl, ?_⟩
  refine call_pu (v := .string (decS (r.epoch + 1))) (fun β w' hs => by rw [← hx1]; exact fmtU_c w' (r.epoch + 1) (by omega)) ?_
  refine ⟨subPerm [0], ?_⟩
  refine ⟨by show keyS.size + (decS (r.epoch + 1)).size ≤ maxLen; omega, ?_⟩
  intro bb cb hcb _
  refine ⟨subPerm [1], ?_⟩
  intro br
  refine ⟨subPerm [2], ?_⟩
  refine call_con [6] (R := outL (bxF r.bx) (macB B r.master (keyT (r.epoch + 1)).data.toList)) (fun β w' hs => by
    have h2 := (((hs.rowRd 0 rfl).unown 1 rfl).ro 3 rfl).part1 (l := (keyT (r.epoch + 1)).data.toList) [0, 1] rfl
    exact macL_c w' r.bx B y r.mA r.master r.mc br (some ⟨bb, 0, none⟩) (keyT (r.epoch + 1)).data.toList cb hts hi (by omega) (by omega) (by omega) (h2.mem.take (js := [7, 0, 4, 8, 9]) rfl)) ?_
  rintro v Fs ⟨A, c, y1, rfl, q1, q2, hts1, rfl⟩
  refine ⟨subPerm [4], ?_⟩
  generalize macB B r.master (keyT (r.epoch + 1)).data.toList = k at *
  obtain ⟨kp, kB⟩ := k
  simp only at q1 hts1
  refine ⟨_, fun _ => _, fun β w' hs => hs.mapPutIY g 6 rfl (t := ty_map_uint64_sl_uint8) x1 (.slice A kp.length c), fun _ => ?_⟩
  refine ⟨subPerm [4], ?_⟩
  rw [show iput r.ml x1 (.slice A kp.length c) = (r.more A c kp).ml from by rw [iput_end (by rw [← hx1]; exact more_look hok)]; simp [Rg.ml, Rg.more, RKey.v, ← hx1]]
  have hx1' : x1 = ((r.more A c kp).epoch : Int) := hx1.symm
  have e1 : rgF (r.more A c kp) = sepF [bkF r.b ty_ring_Ring (putAll r.vs 4 [.int .u64 x1]), browF ty_uint8 r.mA r.master r.mc, mapIF .u64 r.m (r.more A c kp).ml, sepF (r.ks.map RKey.f ++ [browF ty_uint8 A kp c])] := by
    rw [hx1']
    unfold rgF
    simp [Rg.more, Rg.vs, putAll, putAt_eq, RKey.f]
  refine call_con [] (fun β w' hs => epochs_c w' (r.more A c kp)) ?_
  rintro v Fs ⟨bx2, rfl, rfl⟩
  refine range_rule (α := Int) (ι := Unit) (κ := Unit) g rfl (cv := [.pointer (some ⟨bx2, 0, none⟩)]) rfl (by kernel_rfl) 1 (Nat.le_refl 1)
    (fun pre _ => pre = []) (fun _ => [⟨0, ty_ptr_ring_Ring, [.v (ptrR r.b)]⟩]) (fun _ => [bxF r.bx kB y1]) (fun i => ⟨rfl, trivial⟩)
    (fun e _ _ => e = .exit 1) (fun _ => [⟨0, ty_ptr_ring_Ring, [.v (ptrR r.b)]⟩]) (fun _ => [rgF (r.more A c kp).cut, bxF r.bx kB y1]) (fun _ => ⟨rfl, rfl, trivial⟩)
    [bkF bx2 ty_ptr_ring_Ring [ptrR r.b], rgF (r.more A c kp)] [] [] ⟨rfl, rfl, trivial⟩ (fun g h => by cases h) () rfl
    (fun β w hs => ⟨β, Agr.refl _ _, by
      have h2 := hs.blur 1 8 (A := r.ks.map RKey.f) (B := []) (x := browF ty_uint8 A kp c) rfl (by show some (sepF (r.ks.map RKey.f)) = _; rw [List.append_nil]) rfl (by decide)
      have h3 := h2.sep [5, 6, 7, 0] rfl ⟨rfl, rfl, rfl, rfl, trivial⟩
      rw [e1]
      exact h3.perm [1, 0, 2]⟩) (insE (r.more A c kp) (r.more A c kp).rise)
    (fun xs Fs' => xs = (r.more A c kp).rise ∧ Fs' = onFst (r.more A c kp).rise [rgF (r.more A c kp)] []) (fun _ Fs' => Fs' = [])
    (fun l w f0 R J Jx hJ0 hJo hRo hY hm => (ep_it l w bx2 (r.more A c kp) f0 R J Jx (by have h1 := hok.len; have h2 := hok.room; show (r.ks ++ [_]).length ≤ 12; rw [List.length_append]; show r.ks.length + 1 ≤ 12; omega) hJ0 hJo hRo hY hm).mono fun _ Fs h => by
      obtain ⟨f, Fs', e0, h⟩ := h
      refine ⟨f, Fs', e0, ?_⟩
      rcases h with ⟨xs, a1, a2, a3⟩ | ⟨pre, a1, a2⟩
      · exact .inl ⟨xs, a1, a2, a3⟩
      · exact .inr ⟨pre, a1, a2⟩) ?_ ?_ ?_
  · rintro ⟨⟩ pre x args X W S' lb bs pn pn' hbs rfl ⟨rfl, rfl, hx0⟩
    refine ⟨_, rfl, ?_⟩
    obtain ⟨rm, hrm⟩ : ∃ rm : Int, (r.room : Int) = rm := ⟨_, rfl⟩
    refine draw_rule (rcx_good g) p_ring_Ring_Rotate_9 (by kernel_rfl) [⟨0, ty_ptr_ring_Ring, [.v (ptrR r.b)]⟩] [rgF (r.more A c kp)] (subPerm [0]) ?_
    refine ⟨.map (some r.m), fun β w' hs => cell_bk (rg_bk (hs.get 0 rfl)) (o := 3) rfl, ?_⟩
    refine ⟨(r.more A c kp).ml, fun β w' hs => rg_map (hs.get 0 rfl), ?_⟩
    refine ⟨.int .i64 rm, fun β w' hs => by rw [← hrm]; exact cell_bk (rg_bk (hs.get 0 rfl)) (o := 2) rfl, ?_⟩
    have hmll : (r.more A c kp).ml.length = (r.more A c kp).ks.length := by rw [Rg.ml, List.length_map]
    refine BIf.dec (fun hgt => ?_) (fun hle => ?_)
    · have hgt0 : rm < ((r.more A c kp).ml.length : Int) := hgt
      have hcut : (r.more A c kp).cut = { (r.more A c kp) with ks := (r.more A c kp).ks.tail } := by
        unfold Rg.cut
        rw [if_pos (by show r.room < _; omega)]
      refine ⟨.map (some r.m), fun β w' hs => cell_bk (rg_bk (hs.get 0 rfl)) (o := 3) rfl, ?_⟩
      obtain ⟨k0, t, hkt⟩ : ∃ k0 t, (r.more A c kp).ks = k0 :: t := by
        cases hq : (r.more A c kp).ks with
        | nil =>
          have h2 : (r.more A c kp).ks.length = r.ks.length + 1 := by show (r.ks ++ [_]).length = _; rw [List.length_append]; rfl
          rw [hq] at h2
          cases h2
        | cons k0 t => exact ⟨k0, t, rfl⟩
      have hxk : x = (k0.e : Int) := by
        rw [more_rise hok, Rg.es, hkt] at hx0
        exact (Option.some.inj hx0).symm
      have hdel : idel (r.more A c kp).ml x = (r.more A c kp).cut.ml := by
        rw [hcut, Rg.ml, Rg.ml, hkt, hxk]
        simp [idel]
      refine ⟨[⟨0, ty_ptr_ring_Ring, [.v (ptrR r.b)]⟩], [rgF (r.more A c kp).cut, bxF r.bx kB y1], .c (.v (.tuple #[])), fun β w' ty hs => ?_, trivial, ?_⟩
      · have h1 := Sat.unsep hs 0 rfl
        obtain ⟨w2, f1, f2⟩ := h1.mapDelI (rcx_good g) 2 rfl (t := ty_map_uint64_sl_uint8) (tk := ty_uint64) x ty _
        refine ⟨w2, f1, ?_⟩
        have h3 := f2.fuse [3] (sepF ((r.more A c kp).cut.ks.map RKey.f)) (fun w hm => by
          have h := hm.fact (sepF ((r.more A c kp).ks.map RKey.f)) List.mem_cons_self
          rw [hkt] at h
          rw [hcut, hkt]
          exact ⟨fun f hf => h.1 f (List.mem_cons_of_mem _ hf), (List.pairwise_cons.1 h.2).2⟩) (fun k hk => by
          refine ⟨sepF ((r.more A c kp).ks.map RKey.f), List.mem_cons_self, ?_⟩
          rw [hcut, hkt] at hk
          rw [hkt]
          obtain ⟨f, hf, hk⟩ := hk
          exact ⟨f, List.mem_cons_of_mem _ hf, hk⟩)
        have h4 := h3.sep [1, 2, 3, 0] rfl ⟨rfl, rfl, rfl, rfl, trivial⟩
        have e2 : rgF (r.more A c kp).cut = sepF [bkF (r.more A c kp).b ty_ring_Ring (r.more A c kp).vs, browF ty_uint8 (r.more A c kp).mA (r.more A c kp).master (r.more A c kp).mc, mapIF .u64 (r.more A c kp).m (idel (r.more A c kp).ml x), sepF ((r.more A c kp).cut.ks.map RKey.f)] := by
          rw [hdel]
          unfold rgF
          rw [hcut]
          rfl
        rw [e2]
        exact h4
      · exact ⟨(), rfl, Ent.mk' trivial rfl (fun β w hs => hs)⟩
    · have hle0 : ¬ rm < ((r.more A c kp).ml.length : Int) := hle
      have hcut : (r.more A c kp).cut = r.more A c kp := by
        unfold Rg.cut
        rw [if_neg (by show ¬ r.room < _; omega)]
      exact ⟨(), rfl, Ent.mk' trivial rfl (fun β w hs => by rw [hcut]; exact hs)⟩
  · rintro xs ⟨⟩ Fs rfl ⟨hxs, rfl⟩
    exfalso
    have h1 : (r.more A c kp).rise.length = (r.more A c kp).ks.length := by rw [Rg.rise, List.length_mergeSort, Rg.es, List.length_map]
    rw [← hxs] at h1
    have h2 : (r.more A c kp).ks.length = r.ks.length + 1 := by show (r.ks ++ [_]).length = _; rw [List.length_append]; rfl
    rw [h2] at h1
    cases h1
  · rintro e' pre ⟨⟩ Fs rfl rfl
    have hcb : (r.more A c kp).cut.b = r.b := by unfold Rg.cut; split <;> rfl
    have hcv : (r.more A c kp).cut.vs = (r.more A c kp).vs := by unfold Rg.cut; split <;> rfl
    refine ⟨.int .u64 x1, fun β w' hs => ?_, ?_⟩
    · have h := rg_bk (hs.get 0 rfl)
      rw [hcb, hcv] at h
      rw [← hx1]
      exact cell_bk h (o := 4) rfl
    intro β w' hs
    rw [← hx1] at *
    exact (hs.keepB (List.nil_sublist _)).fin [0, 1] ⟨A, c, y1, rfl, hts1, rfl⟩
end Go.Proofs.YtjlpcjpeljlbeaaGreatDoor.Sx

/- Facts turned, a local block named, between two statements. -/
namespace Go.Proofs.YtjlpcjpeljlbeaaGreatDoor.Sx
open Go

theorem tri_sat {cx : Cx} {c : Code} {Q : Exit → KT} {n : Nat} {env : Env} {H : List Bk} {F F' : List Fact} (hS : ∀ β w, Sat cx β n H F w → Sat cx β n H F' w) (h : Tri cx c Q n env H F') : Tri cx c Q n env H F :=
  ⟨fun β a w hi => h.run β a w ⟨hi.ag, hi.size, hi.df, hi.lte, hS β w hi.sat⟩⟩
theorem reify_tri {cx : Cx} {c : Code} {Q : Exit → KT} {n : Nat} {env : Env} {H : List Bk} {F : List Fact} (id : Nat) {ty : TypeId} {cs : List SL} (vs : Nat → List Value) (h1 : tyAt H id = some ty) (h2 : cellsAt H id = some cs) (h3 : ∀ b, allV (cs.map (SL.re id b)) = some (vs b))
    (h : ∀ b, Tri cx c Q n (envRe id b env) (bksRe id b H) (bkF b ty (vs b) :: F)) : Tri cx c Q n env H F :=
  tri_join (ι := Nat) (fun _ => True) n (fun b => envRe id b env) (fun b => bksRe id b H) (fun b => bkF b ty (vs b) :: F) (fun b _ => h b) (EntX.reify id vs h1 h2 h3 (fun b => EntX.of b trivial ⟨fun β a w hi => ⟨β, rfl, rfl, hi⟩⟩))
end Go.Proofs.YtjlpcjpeljlbeaaGreatDoor.Sx

/- A new ring. -/
namespace Go.Proofs.YtjlpcjpeljlbeaaGreatDoor.Sx
open Go
attribute [local irreducible] Calls

theorem more_ok {r : Rg} (hok : RgOk r) (hep : r.epoch + 1 < 98) {A : Option Addr} {c : Nat} {p : List UInt8} : RgOk (r.more A c p).cut := by
  have h1 : ((r.ks ++ [(⟨r.epoch + 1, A, c, p⟩ : RKey)]).map (·.e)).Pairwise (· < ·) := by
    rw [List.map_append, List.pairwise_append]
    refine ⟨hok.rise, List.pairwise_singleton _ _, fun x hx y hy => ?_⟩
    obtain ⟨k, hk, rfl⟩ := List.mem_map.1 hx
    obtain rfl := List.mem_singleton.1 hy
    have := hok.le k hk
    show k.e < r.epoch + 1
    omega
  have h2 : ∀ k ∈ r.ks ++ [(⟨r.epoch + 1, A, c, p⟩ : RKey)], k.e ≤ r.epoch + 1 := by
    intro k hk
    rcases List.mem_append.1 hk with hk | hk
    · have := hok.le k hk
      omega
    · obtain rfl := List.mem_singleton.1 hk
      exact Nat.le_refl _
  have h3 : (r.ks ++ [(⟨r.epoch + 1, A, c, p⟩ : RKey)]).length = r.ks.length + 1 := by rw [List.length_append]; rfl
  have hl := hok.len
  unfold Rg.cut
  split
  · refine ⟨?_, fun k hk => h2 k (List.mem_of_mem_tail hk), ?_, hok.room, hok.master, hep⟩
    · show (((r.ks ++ [(⟨r.epoch + 1, A, c, p⟩ : RKey)]).tail).map (·.e)).Pairwise (· < ·)
      exact h1.sublist ((List.tail_sublist _).map _)
    · show ((r.ks ++ [(⟨r.epoch + 1, A, c, p⟩ : RKey)]).tail).length ≤ r.room
      rw [List.length_tail, h3]
      omega
  · rename_i hn
    have hn2 : ¬ r.room < (r.ks ++ [(⟨r.epoch + 1, A, c, p⟩ : RKey)]).length := hn
    exact ⟨h1, h2, by show (r.ks ++ [(⟨r.epoch + 1, A, c, p⟩ : RKey)]).length ≤ r.room; omega, hok.room, hok.master, hep⟩
def ring0 (b bx : Nat) (mA : Option Addr) (mc : Nat) (master : List UInt8) (room m : Nat) : Rg := ⟨b, bx, mA, mc, master, room, m, [], 0⟩
theorem newR_c (w : World) (bx : Nat) (B : Bx.Box) (y : Lay) (M : Option Addr) (master : List UInt8) (cM room : Nat) (h1 : 1 ≤ master.length) (h2 : master.length ≤ 64) (h3 : 1 ≤ room) (h4 : room ≤ 8) (hts : y.ts.map (·.1) = B.L) (hi : BInv B) (hL : B.L.length < 4000) (hm : Mem w [bxF bx B y, bsF M master, oddF 2, firstF 0]) :
    Con Tryz.prog n_ring_New #[ptrB bx, .slice M master.length cM, .int .i64 (room : Int)] w [bxF bx B y] fun v Fs => ∃ b mA mc m A c y', v = .tuple #[ptrR b, .int .i64 0] ∧ y'.ts.map (·.1) = (macB B master (keyT 1).data.toList).2.L ∧
      Fs = [rgF ((ring0 b bx mA mc master room m).more A c (macB B master (keyT 1).data.toList).1).cut, bxF bx (macB B master (keyT 1).data.toList).2 y'] := by
  have g := good_ring_New w (Un [bxF bx B y])
  have hml := maxLen_eq
  have hs0 : Sat (cx_ring_New w (Un [bxF bx B y])) Va.z 0 [] [bxF bx B y, bsF M master, oddF 2, firstF 0] w := hm.sat0 rfl (ownIn (Gs := [bxF bx B y]) (fun f hf => by
    simp only [List.mem_cons, List.not_mem_nil, or_false] at hf
    rcases hf with rfl | rfl | rfl <;> rfl))
  obtain ⟨rm, hrm⟩ : ∃ rm : Int, (room : Int) = rm := ⟨_, rfl⟩
  rw [hrm]
  refine con_of_tri (cx := cx_ring_New w (Un [bxF bx B y])) g b_ring_New rfl rfl (β := Va.z) [.c (.v (ptrB bx)), .c (.v (.slice M master.length cM)), .c (.v (.int .i64 rm))] 0 [] _ rfl rfl hs0 ?_
  refine tri_seq g ?_
  refine tri_seq g ?_
  refine BIf.dec (fun h => absurd h (show ¬ (master.length : Int) < 1 by omega)) (fun _ => ?_)
  refine BIf.dec (fun h => absurd h (show ¬ (64 : Int) < (master.length : Int) by omega)) (fun _ => ?_)
  refine BIf.dec (fun h => absurd h (show ¬ rm < 1 by omega)) (fun _ => ?_)
  refine BIf.dec (fun h => absurd h (show ¬ (8 : Int) < rm by omega)) (fun _ => ?_)
  refine tri_seq g ?_
  refine call_con [] (fun β w' hs => clone_c w' M master cM (hs.get 1 rfl) (by omega)) ?_
  rintro v Fs ⟨mA, mc, rfl, q1, q2, rfl⟩
  intro m
  refine reify_tri 0 (fun _ => [.pointer (some ⟨bx, 0, none⟩), .slice mA master.length mc, .int .i64 rm, .map (some m), .int .u64 0]) rfl rfl (fun _ => rfl) (fun rb => ?_)
  refine tri_sat (F' := [rgF (ring0 rb bx mA mc master room m), bxF bx B y, oddF 2, firstF 0]) (fun β w' hs => by
    have h1 := (hs.emptyI (kk := .u64) 1 rfl).noMem (sepF []) ⟨fun f hf => (by cases hf), List.Pairwise.nil⟩ (fun k hk => by obtain ⟨f, hf, _⟩ := hk; cases hf)
    have h2 := h1.sep [1, 3, 2, 0] rfl ⟨rfl, rfl, rfl, rfl, trivial⟩
    have e : rgF (ring0 rb bx mA mc master room m) = sepF [bkF rb ty_ring_Ring [.pointer (some ⟨bx, 0, none⟩), .slice mA master.length mc, .int .i64 rm, .map (some m), .int .u64 0], browF ty_uint8 mA master mc, mapIF .u64 m [], sepF []] := by
      rw [← hrm]
      rfl
    rw [e]
    exact h2.perm [0, 1, 3, 4]) ?_
  have hok : RgOk (ring0 rb bx mA mc master room m) := ⟨List.Pairwise.nil, fun k hk => (by cases hk), Nat.zero_le _, h4, h2, by show 0 < 98; decide⟩
  refine tri_seq g ?_
  refine call_con [0, 1] (fun β w' hs => rotate_c w' (ring0 rb bx mA mc master room m) B y hok hts hi hL (hs.mem.take (js := [0, 1, 2, 3]) rfl)) ?_
  rintro v Fs ⟨A, c, y', rfl, hts', rfl⟩
  refine tri_seq g ?_
  refine tri_of g ?_
  intro β w' hs
  exact (hs.keepB (List.nil_sublist _)).fin [0, 1] ⟨rb, mA, mc, m, A, c, y', rfl, hts', rfl⟩
end Go.Proofs.YtjlpcjpeljlbeaaGreatDoor.Sx

/- A ring's newest key. -/
namespace Go.Proofs.YtjlpcjpeljlbeaaGreatDoor.Sx
open Go
attribute [local irreducible] Calls

def newestOut (r : Rg) (v : Value) (Fs : List Fact) : Prop := match r.key (r.epoch : Int) with
  | none => v = .tuple #[.int .u64 0, .slice none 0 0, .bool false] ∧ Fs = []
  | some k => ∃ A c, v = .tuple #[.int .u64 (r.epoch : Int), .slice A k.p.length c, .bool true] ∧ k.p.length ≤ c ∧ Fs = [browF ty_uint8 A k.p c]
theorem newest_c (w : World) (r : Rg) (h : (rgF r).p w) (hl : ∀ k, (rgF r).D k → k < w.heap.size) (hp : ∀ k ∈ r.ks, k.p.length ≤ 1000) : Con Tryz.prog n_ring_Ring_Newest #[ptrR r.b] w [] (newestOut r) := by
  have g := good_ring_Ring_Newest w (Un [])
  refine con_of_sx (cx := cx_ring_Ring_Newest w (Un [])) g b_ring_Ring_Newest rfl rfl (β := Va.z) [.c (.v (ptrR r.b))] 0 [] [oldF w] rfl rfl (old_sat rfl) ?_
  refine ⟨.int .u64 (r.epoch : Int), fun β w' hs => cell_bk (rg_bk (fact_oldR h hl (hs.get 0 rfl))) (o := 4) rfl, ?_⟩
  refine call_con [] (fun β w' hs => key_c w' r (r.epoch : Int) (fact_oldR h hl (hs.get 0 rfl)) (fun k hk => Nat.lt_of_lt_of_le (hl k hk) hs.chg.size) hp) ?_
  unfold newestOut
  cases hk : r.key (r.epoch : Int) with
  | none =>
    rintro v Fs ⟨rfl, rfl⟩
    intro β w' hs
    exact hs.fin [] ⟨rfl, rfl⟩
  | some k =>
    rintro v Fs ⟨A, c, rfl, hc, rfl⟩
    refine ⟨.int .u64 (r.epoch : Int), fun β w' hs => cell_bk (rg_bk (fact_oldR h hl (hs.get 1 rfl))) (o := 4) rfl, ?_⟩
    intro β w' hs
    exact hs.fin [0] ⟨A, c, rfl, hc, rfl⟩
end Go.Proofs.YtjlpcjpeljlbeaaGreatDoor.Sx

/- A ring's sums of one part. -/
namespace Go.Proofs.YtjlpcjpeljlbeaaGreatDoor.Sx
open Go
attribute [local irreducible] Calls

def signOut (r : Rg) (B : Bx.Box) (l : List UInt8) (v : Value) (Fs : List Fact) : Prop := match r.key (r.epoch : Int) with
  | none => v = .tuple #[.int .u64 0, .slice none 0 0, .int .i64 15] ∧ ∃ y', y'.ts.map (·.1) = B.L ∧ Fs = [rgF r, bxF r.bx B y']
  | some k => ∃ A c y', v = .tuple #[.int .u64 (r.epoch : Int), .slice A (macB B k.p l).1.length c, .int .i64 0] ∧ (macB B k.p l).1.length ≤ c ∧ y'.ts.map (·.1) = (macB B k.p l).2.L ∧ Fs = [browF ty_uint8 A (macB B k.p l).1 c, rgF r, bxF r.bx (macB B k.p l).2 y']
end Go.Proofs.YtjlpcjpeljlbeaaGreatDoor.Sx

/- A sum of one part, asked for. -/
namespace Go.Proofs.YtjlpcjpeljlbeaaGreatDoor.Sx
open Go
attribute [local irreducible] Calls

def verOut (r : Rg) (B : Bx.Box) (e : Int) (s l : List UInt8) (v : Value) (Fs : List Fact) : Prop := match r.key e with
  | none => v = .int .i64 15 ∧ ∃ y', y'.ts.map (·.1) = B.L ∧ Fs = [rgF r, bxF r.bx B y']
  | some k => v = .int .i64 (if (macB B k.p l).1 = s then 0 else 13) ∧ ∃ y', y'.ts.map (·.1) = (macB B k.p l).2.L ∧ Fs = [rgF r, bxF r.bx (macB B k.p l).2 y']
end Go.Proofs.YtjlpcjpeljlbeaaGreatDoor.Sx

/- A key that goes. -/
namespace Go.Proofs.YtjlpcjpeljlbeaaGreatDoor.Sx
open Go
attribute [local irreducible] Calls

def Rg.drop (r : Rg) (e : Int) : Rg := { r with ks := r.ks.eraseP fun k => decide ((k.e : Int) = e) }
theorem idel_drop (e : Int) : ∀ ks : List RKey, idel (ks.map fun k => ((k.e : Int), k.v)) e = (ks.eraseP fun k => decide ((k.e : Int) = e)).map fun k => ((k.e : Int), k.v)
  | [] => rfl
  | k :: t => by
    by_cases h : (k.e : Int) = e
    · simp [idel, List.eraseP, h]
    · simp only [List.map_cons, idel, if_neg h, List.eraseP, decide_eq_false h]
      rw [idel_drop e t]
      rfl
def retOut (r : Rg) (e : Int) (v : Value) (Fs : List Fact) : Prop := match r.key e with
  | none => v = .int .i64 15 ∧ Fs = [rgF r]
  | some _ => v = .int .i64 0 ∧ Fs = [rgF (r.drop e)]
theorem retire_c (w : World) (r : Rg) (e : Int) (hp : ∀ k ∈ r.ks, k.p.length ≤ 1000) (hm : Mem w [rgF r]) : Con Tryz.prog n_ring_Ring_Retire #[ptrR r.b, .int .u64 e] w [rgF r] (retOut r e) := by
  have g := good_ring_Ring_Retire w (Un [rgF r])
  have hs0 : Sat (cx_ring_Ring_Retire w (Un [rgF r])) Va.z 0 [] [rgF r] w := hm.sat0 rfl (fun f hf _ k hk => ⟨f, hf, hk⟩)
  refine con_of_sx (cx := cx_ring_Ring_Retire w (Un [rgF r])) g b_ring_Ring_Retire rfl rfl (β := Va.z) [.c (.v (ptrR r.b)), .c (.v (.int .u64 e))] 0 [] _ rfl rfl hs0 ?_
  refine call_con [] (fun β w' hs => key_c w' r e (hs.get 0 rfl) (hs.getLt 0 rfl) hp) ?_
  unfold retOut
  cases hk : r.key e with
  | none =>
    rintro v Fs ⟨rfl, rfl⟩
    intro β w' hs
    exact hs.fin [0] ⟨rfl, rfl⟩
  | some k =>
    rintro v Fs ⟨A, c, rfl, hc, rfl⟩
    refine ⟨.map (some r.m), fun β w' hs => cell_bk (rg_bk (hs.get 1 rfl)) (o := 3) rfl, ?_⟩
    refine ⟨[], [rgF (r.drop e)], .c (.v (.tuple #[])), fun β w' ty hs => ?_, trivial, ?_⟩
    · have h1 := (Sat.perm hs [1]).unsep 0 rfl
      obtain ⟨w2, f1, f2⟩ := h1.mapDelI g 2 rfl (t := ty_map_uint64_sl_uint8) (tk := ty_uint64) e ty _
      refine ⟨w2, f1, ?_⟩
      have h3 := f2.fuse [3] (sepF ((r.drop e).ks.map RKey.f)) (fun w hm => by
        have h := hm.fact (sepF (r.ks.map RKey.f)) List.mem_cons_self
        have hsl : ((r.drop e).ks.map RKey.f).Sublist (r.ks.map RKey.f) := List.eraseP_sublist.map _
        exact ⟨fun f hf => h.1 f (hsl.subset hf), h.2.sublist hsl⟩) (fun q hq => by
        have hsl : ((r.drop e).ks.map RKey.f).Sublist (r.ks.map RKey.f) := List.eraseP_sublist.map _
        obtain ⟨f, hf, hq⟩ := hq
        exact ⟨sepF (r.ks.map RKey.f), List.mem_cons_self, f, hsl.subset hf, hq⟩)
      have h4 := h3.sep [1, 2, 3, 0] rfl ⟨rfl, rfl, rfl, rfl, trivial⟩
      have e2 : rgF (r.drop e) = sepF [bkF r.b ty_ring_Ring r.vs, browF ty_uint8 r.mA r.master r.mc, mapIF .u64 r.m (idel r.ml e), sepF ((r.drop e).ks.map RKey.f)] := by
        have e3 : idel r.ml e = (r.drop e).ml := idel_drop e r.ks
        rw [e3]
        rfl
      rw [e2]
      exact h4
    · intro β w' hs
      exact hs.fin [0] ⟨rfl, rfl⟩
end Go.Proofs.YtjlpcjpeljlbeaaGreatDoor.Sx

/- No ring; no box. -/
namespace Go.Proofs.YtjlpcjpeljlbeaaGreatDoor.Sx
open Go
attribute [local irreducible] Calls

end Go.Proofs.YtjlpcjpeljlbeaaGreatDoor.Sx

/- No ring's epochs, collected; the ring that lost a key; sums of no part. -/
namespace Go.Proofs.YtjlpcjpeljlbeaaGreatDoor.Sx
open Go
attribute [local irreducible] Calls

/-- The newest key is gone: nothing is signed. -/
theorem signNo_c (w : World) (r : Rg) (P : Value) (h : (rgF r).p w) (hl : ∀ k, (rgF r).D k → k < w.heap.size) (hp : ∀ k ∈ r.ks, k.p.length ≤ 1000) (hk : r.key (r.epoch : Int) = none) : Pu Tryz.prog n_ring_Ring_Sign #[ptrR r.b, P] w (.tuple #[.int .u64 0, .slice none 0 0, .int .i64 15]) := by
  refine con_of_sx (cx := cx_ring_Ring_Sign w (Un [])) (good_ring_Ring_Sign w (Un [])) b_ring_Ring_Sign rfl rfl (β := Va.z) [.c (.v (ptrR r.b)), .c (.v P)] 0 [] [oldF w] rfl rfl (old_sat rfl) ?_
  refine call_con [] (fun β w' hs => newest_c w' r (fact_oldR h hl (hs.get 0 rfl)) (fun k hk => Nat.lt_of_lt_of_le (hl k hk) hs.chg.size) hp) ?_
  unfold newestOut
  rw [hk]
  rintro v Fs ⟨rfl, rfl⟩
  intro β w' hs
  exact hs.fin [] ⟨rfl, rfl⟩
end Go.Proofs.YtjlpcjpeljlbeaaGreatDoor.Sx

/- Boxes that grow: what was made once is made again. -/
namespace Go.Proofs.YtjlpcjpeljlbeaaGreatDoor.Sx
open Go

/-- A box that has the terms of another one, and more. -/
structure Pre (B B' : Bx.Box) : Prop where
  sym : B'.sym = B.sym
  full : B'.full = B.full
  terms : ∃ l, B'.L = B.L ++ l
theorem Pre.refl (B : Bx.Box) : Pre B B := ⟨rfl, rfl, [], by simp⟩
theorem Pre.trans {A B C : Bx.Box} (h : Pre A B) (k : Pre B C) : Pre A C := by
  obtain ⟨l, hl⟩ := h.terms
  obtain ⟨m, hm⟩ := k.terms
  exact ⟨k.sym.trans h.sym, k.full.trans h.full, l ++ m, by rw [hm, hl, List.append_assoc]⟩
theorem place_app {t : Bx.Term} : ∀ {L : List Bx.Term} {i : Nat} (l : List Bx.Term), Bx.place t L = some i → Bx.place t (L ++ l) = some i
  | x :: r, i, l, h => by
    simp only [List.cons_append, Bx.place] at h ⊢
    split
    · rename_i q; rw [if_pos q] at h; exact h
    · rename_i q
      rw [if_neg q] at h
      obtain ⟨j, hj, rfl⟩ := Option.map_eq_some_iff.1 h
      rw [place_app l hj]
      rfl
theorem place_new {t : Bx.Term} : ∀ {L : List Bx.Term}, Bx.place t L = none → Bx.place t (L ++ [t]) = some L.length
  | [], _ => by simp [Bx.place]
  | x :: r, h => by
    simp only [List.cons_append, Bx.place] at h ⊢
    split
    · rename_i q; rw [if_pos q] at h; cases h
    · rename_i q
      rw [if_neg q] at h
      have h' : Bx.place t r = none := by simpa using h
      rw [place_new h']
      simp
theorem tag_pre {B : Bx.Box} (hl : B.L.length < 4096) (t : Bx.Term) : Pre B (B.tag t).2 := by
  unfold Bx.Box.tag
  cases Bx.place t B.L with
  | some i => exact Pre.refl B
  | none =>
    simp only
    rw [if_neg (by omega)]
    exact ⟨rfl, rfl, [t], rfl⟩
theorem tag_place {B : Bx.Box} (hl : B.L.length < 4096) (t : Bx.Term) : ∃ i, Bx.place t (B.tag t).2.L = some i ∧ (B.tag t).1 = Bx.handle (i + 1) := by
  unfold Bx.Box.tag
  cases h : Bx.place t B.L with
  | some i => exact ⟨i, h, rfl⟩
  | none =>
    simp only
    rw [if_neg (by omega)]
    exact ⟨B.L.length, place_new h, rfl⟩
theorem tag_again {B B' : Bx.Box} (hl : B.L.length < 4096) (t : Bx.Term) (h : Pre (B.tag t).2 B') : B'.tag t = ((B.tag t).1, B') := by
  obtain ⟨i, h1, h2⟩ := tag_place hl t
  obtain ⟨l, hl2⟩ := h.terms
  have h3 : Bx.place t B'.L = some i := by rw [hl2]; exact place_app l h1
  rw [h2]
  unfold Bx.Box.tag
  rw [h3]
/-- A term's tag, or what a plain box tells. -/
noncomputable def opB (B : Bx.Box) (t : Bx.Term) (raw : List UInt8) : List UInt8 × Bx.Box := if B.sym then B.tag t else (raw, B)
theorem op_pre {B : Bx.Box} (hl : B.L.length < 4096) (t : Bx.Term) (raw : List UInt8) : Pre B (opB B t raw).2 := by
  unfold opB
  split
  · exact tag_pre hl t
  · exact Pre.refl B
theorem op_again {B B' : Bx.Box} (hl : B.L.length < 4096) (t : Bx.Term) (raw : List UInt8) (h : Pre (opB B t raw).2 B') : opB B' t raw = ((opB B t raw).1, B') := by
  cases hs : B.sym with
  | true =>
    have e : opB B t raw = B.tag t := by unfold opB; rw [hs]; rfl
    rw [e] at h ⊢
    have hs' : B'.sym = true := by rw [h.sym, (tag_pre hl t).sym, hs]
    unfold opB
    rw [hs', if_pos rfl]
    exact tag_again hl t h
  | false =>
    have e : opB B t raw = (raw, B) := by unfold opB; rw [hs]; rfl
    rw [e] at h ⊢
    have hs' : B'.sym = false := by rw [h.sym]; exact hs
    unfold opB
    rw [hs']
    rfl
theorem mac_pre {B : Bx.Box} (hl : B.L.length < 4096) (k t : List UInt8) : Pre B (macB B k t).2 := op_pre hl _ _
theorem mac_again {B B' : Bx.Box} (hl : B.L.length < 4096) (k t : List UInt8) (h : Pre (macB B k t).2 B') : macB B' k t = ((macB B k t).1, B') := op_again hl _ _ h
theorem opens_app {h : List UInt8} {r : List Nat × List UInt8} : ∀ (l : List Bx.Term) {B : Bx.Box}, B.opens h = some r → ({ B with L := B.L ++ l } : Bx.Box).opens h = some r
  | [], B, e => by rw [List.append_nil]; exact e
  | t :: l, B, e => by
    have h1 := opens_app l (opens_grow (t := t) e)
    simp only [List.append_assoc, List.cons_append, List.nil_append] at h1
    exact h1
theorem Pre.opens {B B' : Bx.Box} (h : Pre B B') {t : List UInt8} {r : List Nat × List UInt8} (e : B.opens t = some r) : B'.opens t = some r := by
  obtain ⟨l, hl⟩ := h.terms
  have h1 := opens_app l e
  have e2 : B' = { B with L := B.L ++ l } := by
    obtain ⟨s, f, L⟩ := B'
    have a := h.sym
    have b := h.full
    simp only at a b hl
    subst a b hl
    rfl
  rw [e2]
  exact h1
end Go.Proofs.YtjlpcjpeljlbeaaGreatDoor.Sx

/- Keys of a ring that stay; sums of unlike keys. -/
namespace Go.Proofs.YtjlpcjpeljlbeaaGreatDoor.Sx
open Go

/-- A ring that was turned t times: its first key stands, or has gone. -/
structure Kept (r : Rg) (k t : Nat) (k1 : List UInt8) : Prop where
  ok : RgOk r
  rm : r.room = k
  ep : r.epoch = t + 1
  p32 : ∀ q ∈ r.ks, q.p.length = 32
  lo : t < k → ∃ A c ks, r.ks = ⟨1, A, c, k1⟩ :: ks ∧ ks.length = t
  hi : k ≤ t → r.ks.length = k ∧ ∀ q ∈ r.ks, 1 < q.e
  eslo : t < k → r.ks.map (·.e) = List.range' 1 (t + 1)
  eshi : k ≤ t → r.ks.map (·.e) = List.range' (t + 2 - k) k
theorem Kept.p {r : Rg} {k t : Nat} {k1 : List UInt8} (h : Kept r k t k1) : ∀ q ∈ r.ks, q.p.length ≤ 1000 := fun q hq => by rw [h.p32 q hq]; decide
theorem kept_new {b bx : Nat} {mA : Option Addr} {mc : Nat} {master : List UInt8} {room m : Nat} {A : Option Addr} {c : Nat} {p : List UInt8} (h2 : master.length ≤ 64) (h3 : 1 ≤ room) (h4 : room ≤ 8) (hp : p.length = 32) : Kept ((ring0 b bx mA mc master room m).more A c p).cut room 0 p := by
  have hok : RgOk (ring0 b bx mA mc master room m) := ⟨List.Pairwise.nil, fun k hk => (by cases hk), Nat.zero_le _, h4, h2, by show 0 < 98; decide⟩
  have e : ((ring0 b bx mA mc master room m).more A c p).cut = (ring0 b bx mA mc master room m).more A c p := by
    unfold Rg.cut
    rw [if_neg]
    show ¬ room < 1
    omega
  refine ⟨more_ok hok (by show 0 + 1 < 98; decide), ?_, ?_, ?_, ?_, fun h => absurd h (by omega), fun _ => by rw [e]; rfl, fun h => absurd h (by omega)⟩
  · rw [e]; rfl
  · rw [e]; rfl
  · rw [e]
    intro q hq
    have hq' : q ∈ [(⟨1, A, c, p⟩ : RKey)] := hq
    obtain rfl := List.mem_singleton.1 hq'
    exact hp
  · intro _
    rw [e]
    exact ⟨A, c, [], rfl, rfl⟩
theorem cut_room (r : Rg) : r.cut.room = r.room := by unfold Rg.cut; split <;> rfl
theorem cut_epoch (r : Rg) : r.cut.epoch = r.epoch := by unfold Rg.cut; split <;> rfl
theorem cut_bx (r : Rg) : r.cut.bx = r.bx := by unfold Rg.cut; split <;> rfl
theorem cut_b (r : Rg) : r.cut.b = r.b := by unfold Rg.cut; split <;> rfl
theorem cut_master (r : Rg) : r.cut.master = r.master := by unfold Rg.cut; split <;> rfl
theorem cut_mem {r : Rg} {q : RKey} (h : q ∈ r.cut.ks) : q ∈ r.ks := by
  unfold Rg.cut at h
  split at h
  · exact List.mem_of_mem_tail h
  · exact h
theorem Kept.next {r : Rg} {k t : Nat} {k1 : List UInt8} (h : Kept r k t k1) (hk : 1 ≤ k) (ht : t < 90) {A : Option Addr} {c : Nat} {p : List UInt8} (hp : p.length = 32) : Kept (r.more A c p).cut k (t + 1) k1 := by
  have hrm := h.rm
  have hep := h.ep
  have hlen : (r.more A c p).ks.length = r.ks.length + 1 := by show (r.ks ++ [_]).length = _; rw [List.length_append]; rfl
  have hroom : (r.more A c p).room = k := hrm
  have hme : (r.more A c p).ks.map (·.e) = r.ks.map (·.e) ++ [t + 2] := by show (r.ks ++ [(⟨r.epoch + 1, A, c, p⟩ : RKey)]).map (·.e) = _; rw [List.map_append, hep]; rfl
  refine ⟨more_ok h.ok (by omega), by rw [cut_room]; exact hrm, by rw [cut_epoch]; show r.epoch + 1 = _; omega, ?_, ?_, ?_, ?_, ?_⟩
  · intro q hq
    have hq' : q ∈ r.ks ++ [(⟨r.epoch + 1, A, c, p⟩ : RKey)] := cut_mem hq
    rcases List.mem_append.1 hq' with hq' | hq'
    · exact h.p32 q hq'
    · obtain rfl := List.mem_singleton.1 hq'
      exact hp
  · intro hlt
    obtain ⟨A0, c0, ks, e, hl⟩ := h.lo (by omega)
    have hcut : (r.more A c p).cut = r.more A c p := by
      unfold Rg.cut
      rw [if_neg]
      rw [hlen, e, hroom, List.length_cons]
      omega
    rw [hcut]
    exact ⟨A0, c0, ks ++ [⟨r.epoch + 1, A, c, p⟩], by show r.ks ++ _ = _; rw [e]; rfl, by rw [List.length_append, hl]; rfl⟩
  · intro hge
    have hl : r.ks.length = k := by
      rcases Nat.lt_or_ge t k with hlt | hge2
      · obtain ⟨A0, c0, ks, e, hl⟩ := h.lo hlt
        rw [e, List.length_cons]
        omega
      · exact (h.hi hge2).1
    have hcut : (r.more A c p).cut = { r.more A c p with ks := (r.more A c p).ks.tail } := by
      unfold Rg.cut
      rw [if_pos (by rw [hlen, hroom]; omega)]
    rw [hcut]
    refine ⟨by show (r.more A c p).ks.tail.length = k; rw [List.length_tail, hlen]; omega, fun q hq => ?_⟩
    have hq' : q ∈ (r.ks ++ [(⟨r.epoch + 1, A, c, p⟩ : RKey)]).tail := hq
    have hrise := h.ok.rise
    have hr0 : r.ks ≠ [] := by intro e; rw [e] at hl; simp at hl; omega
    rw [List.tail_append_of_ne_nil hr0] at hq'
    rcases List.mem_append.1 hq' with hq' | hq'
    · rcases Nat.lt_or_ge t k with hlt | hge2
      · obtain ⟨A0, c0, ks, e, hl⟩ := h.lo hlt
        rw [e] at hq' hrise
        rw [List.map_cons, List.pairwise_cons] at hrise
        exact hrise.1 q.e (List.mem_map.2 ⟨q, hq', rfl⟩)
      · exact (h.hi hge2).2 q (List.mem_of_mem_tail hq')
    · obtain rfl := List.mem_singleton.1 hq'
      show 1 < r.epoch + 1
      omega
  · intro hlt
    obtain ⟨A0, c0, ks, e, hl⟩ := h.lo (by omega)
    have hcut : (r.more A c p).cut = r.more A c p := by
      unfold Rg.cut
      rw [if_neg]
      rw [hlen, e, hroom, List.length_cons]
      omega
    rw [hcut, hme, h.eslo (by omega), List.range'_concat (n := t + 1)]
    simp
    omega
  · intro hge
    have hl : r.ks.length = k := by
      rcases Nat.lt_or_ge t k with hlt | hge2
      · obtain ⟨A0, c0, ks, e, hl⟩ := h.lo hlt
        rw [e, List.length_cons]
        omega
      · exact (h.hi hge2).1
    have hcut : (r.more A c p).cut = { r.more A c p with ks := (r.more A c p).ks.tail } := by
      unfold Rg.cut
      rw [if_pos (by rw [hlen, hroom]; omega)]
    rw [hcut]
    show (r.more A c p).ks.tail.map (·.e) = _
    rw [List.map_tail, hme]
    obtain ⟨s, hs, e⟩ : ∃ s, s + k = t + 2 ∧ r.ks.map (·.e) = List.range' s k := by
      rcases Nat.lt_or_ge t k with hlt | hge2
      · obtain rfl : t + 1 = k := by omega
        exact ⟨1, by omega, h.eslo hlt⟩
      · exact ⟨t + 2 - k, by omega, h.eshi hge2⟩
    have e2 : List.range' s k ++ [t + 2] = List.range' s (k + 1) := by
      rw [List.range'_concat]
      simp
      omega
    rw [e, e2, List.range'_succ, List.tail_cons]
    congr 1
    omega
theorem key_in {r : Rg} {e : Nat} (h : e ∈ r.ks.map (·.e)) : ∃ q, r.key (e : Int) = some q ∧ q ∈ r.ks ∧ q.e = e := by
  obtain ⟨q0, h0, h1⟩ := List.mem_map.1 h
  cases hk : r.key (e : Int) with
  | none =>
    have := List.find?_eq_none.1 hk q0 h0
    simp at this
    omega
  | some q =>
    have h2 := List.find?_some hk
    simp at h2
    exact ⟨q, rfl, List.mem_of_find?_eq_some hk, by omega⟩
theorem drop_len {r : Rg} {e : Nat} (h : e ∈ r.ks.map (·.e)) : (r.drop (e : Int)).ks.length = r.ks.length - 1 := by
  obtain ⟨q0, h0, h1⟩ := List.mem_map.1 h
  exact List.length_eraseP_of_mem h0 (by simp only [decide_eq_true_eq]; omega)
theorem drop_sub {r : Rg} {e : Int} {q : RKey} (h : q ∈ (r.drop e).ks) : q ∈ r.ks := List.mem_of_mem_eraseP h
theorem Kept.key {r : Rg} {k t : Nat} {k1 : List UInt8} (h : Kept r k t k1) (hlt : t < k) : ∃ q, r.key 1 = some q ∧ q.p = k1 := by
  obtain ⟨A, c, ks, e, _⟩ := h.lo hlt
  exact ⟨⟨1, A, c, k1⟩, by unfold Rg.key; rw [e]; rfl, rfl⟩
theorem Kept.gone {r : Rg} {k t : Nat} {k1 : List UInt8} (h : Kept r k t k1) (hge : k ≤ t) : r.key 1 = none := by
  unfold Rg.key
  refine List.find?_eq_none.2 fun q hq => ?_
  have := (h.hi hge).2 q hq
  simp
  omega
theorem drop_apart (e : Int) : ∀ ks : List RKey, (ks.map (·.e)).Pairwise (· < ·) → ∀ q ∈ ks.eraseP (fun k => decide ((k.e : Int) = e)), ¬ (q.e : Int) = e
  | [], _, q, hq => by cases hq
  | k :: t, h, q, hq => by
    rw [List.map_cons, List.pairwise_cons] at h
    by_cases hk : (k.e : Int) = e
    · rw [List.eraseP_cons_of_pos (by simpa using hk)] at hq
      have := h.1 q.e (List.mem_map.2 ⟨q, hq, rfl⟩)
      omega
    · rw [List.eraseP_cons_of_neg (by simpa using hk)] at hq
      rcases List.mem_cons.1 hq with rfl | hq
      · exact hk
      · exact drop_apart e t h.2 q hq
theorem drop_none {r : Rg} (h : RgOk r) (e : Int) : (r.drop e).key e = none := by
  unfold Rg.key
  refine List.find?_eq_none.2 fun q hq => ?_
  have := drop_apart e r.ks h.rise q hq
  simpa using this
end Go.Proofs.YtjlpcjpeljlbeaaGreatDoor.Sx

/- A ring's sums of any parts, made and asked for. -/
namespace Go.Proofs.YtjlpcjpeljlbeaaGreatDoor.Sx
open Go
attribute [local irreducible] Calls

theorem macQ_c (w : World) (b : Nat) (B : Bx.Box) (y : Lay) (K : Option Addr) (key : List UInt8) (cK : Nat) (b0 : Nat) (ps : List Part) (n : Nat) (hn0 : ps.length = n) (hts : y.ts.map (·.1) = B.L) (hi : BInv B) (hL : B.L.length < 4096) (hk : key.length ≤ 1000000) (h0 : ps ≠ []) (hl : ps.length ≤ 1000) (hn : (partsT ps).length ≤ 1000000) (hm : Mem w [bxF b B y, partF (some ⟨b0, 0, none⟩) ps, bsF K key, oddF 2, firstF 0]) :
    Con Tryz.prog n_box_Box_Mac #[ptrB b, .slice K key.length cK, .slice (some ⟨b0, 0, none⟩) n n] w [bxF b B y] (outL (bxF b) (macB B key (partsT ps))) := by
  subst hn0
  exact (macP_c w b B y K key cK b0 ps ps.length hts (by omega) hk h0 (Nat.le_refl _) hl hn hm).mono fun v Fs h => boxOut_L (mac_good hi hL hk hn).2.1 h
theorem signP_c (w : World) (r : Rg) (B : Bx.Box) (y : Lay) (b0 : Nat) (ps : List Part) (n : Nat) (hn0 : ps.length = n) (h0 : ps ≠ []) (hpl : ps.length ≤ 1000) (hp : ∀ k ∈ r.ks, k.p.length ≤ 1000) (hln : (partsT ps).length ≤ 1000000) (hts : y.ts.map (·.1) = B.L) (hi : BInv B) (hL : B.L.length < 4000)
    (hm : Mem w [rgF r, bxF r.bx B y, partF (some ⟨b0, 0, none⟩) ps, oddF 2, firstF 0]) :
    Con Tryz.prog n_ring_Ring_Sign #[ptrR r.b, .slice (some ⟨b0, 0, none⟩) n n] w [rgF r, bxF r.bx B y] (signOut r B (partsT ps)) := by
  have g := good_ring_Ring_Sign w (Un [rgF r, bxF r.bx B y])
  have hs0 : Sat (cx_ring_Ring_Sign w (Un [rgF r, bxF r.bx B y])) Va.z 0 [] [rgF r, bxF r.bx B y, partF (some ⟨b0, 0, none⟩) ps, oddF 2, firstF 0] w := hm.sat0 rfl (ownIn (Gs := [rgF r, bxF r.bx B y]) (fun f hf => by
    simp only [List.mem_cons, List.not_mem_nil, or_false] at hf
    rcases hf with rfl | rfl | rfl <;> rfl))
  refine con_of_sx (cx := cx_ring_Ring_Sign w (Un [rgF r, bxF r.bx B y])) g b_ring_Ring_Sign rfl rfl (β := Va.z) [.c (.v (ptrR r.b)), .c (.v (.slice (some ⟨b0, 0, none⟩) n n))] 0 [] _ rfl rfl hs0 ?_
  refine call_con [] (fun β w' hs => newest_c w' r (hs.get 0 rfl) (hs.getLt 0 rfl) hp) ?_
  unfold newestOut signOut
  cases hk : r.key (r.epoch : Int) with
  | none =>
    rintro v Fs ⟨rfl, rfl⟩
    intro β w' hs
    exact hs.fin [0, 1] ⟨rfl, y, hts, rfl⟩
  | some k =>
    have hm2 : k ∈ r.ks := List.mem_of_find?_eq_some hk
    have hkl := hp k hm2
    rintro v Fs ⟨A, c, rfl, hc, rfl⟩
    refine ⟨.pointer (some ⟨r.bx, 0, none⟩), fun β w' hs => cell_bk (rg_bk (hs.get 1 rfl)) (o := 0) rfl, ?_⟩
    refine call_con [2] (R := outL (bxF r.bx) (macB B k.p (partsT ps))) (fun β w' hs => macQ_c w' r.bx B y A k.p c b0 ps n hn0 hts hi (by omega) (by omega) h0 hpl hln ((hs.ro 0 rfl).mem.take (js := [2, 3, 0, 4, 5]) rfl)) ?_
    rintro v Fs ⟨A2, c2, y2, rfl, q1, q2, hts2, rfl⟩
    intro β w' hs
    exact hs.fin [0, 3, 1] ⟨A2, c2, y2, rfl, q1, hts2, rfl⟩ rfl rfl rfl ⟨rfl, rfl, rfl, trivial⟩
theorem verifyP_c (w : World) (r : Rg) (B : Bx.Box) (y : Lay) (e : Int) (A0 : Option Addr) (s : List UInt8) (cs b0 : Nat) (ps : List Part) (n : Nat) (hn0 : ps.length = n) (h0 : ps ≠ []) (hpl : ps.length ≤ 1000) (hp : ∀ k ∈ r.ks, k.p.length ≤ 1000) (hln : (partsT ps).length ≤ 1000000) (hts : y.ts.map (·.1) = B.L) (hi : BInv B) (hL : B.L.length < 4000)
    (hm : Mem w [rgF r, bxF r.bx B y, partF (some ⟨b0, 0, none⟩) ps, bsF A0 s, oddF 2, firstF 0]) :
    Con Tryz.prog n_ring_Ring_Verify #[ptrR r.b, .int .u64 e, .slice A0 s.length cs, .slice (some ⟨b0, 0, none⟩) n n] w [rgF r, bxF r.bx B y] (verOut r B e s (partsT ps)) := by
  have g := good_ring_Ring_Verify w (Un [rgF r, bxF r.bx B y])
  have hs0 : Sat (cx_ring_Ring_Verify w (Un [rgF r, bxF r.bx B y])) Va.z 0 [] [rgF r, bxF r.bx B y, partF (some ⟨b0, 0, none⟩) ps, bsF A0 s, oddF 2, firstF 0] w := hm.sat0 rfl (ownIn (Gs := [rgF r, bxF r.bx B y]) (fun f hf => by
    simp only [List.mem_cons, List.not_mem_nil, or_false] at hf
    rcases hf with rfl | rfl | rfl | rfl <;> rfl))
  refine con_of_sx (cx := cx_ring_Ring_Verify w (Un [rgF r, bxF r.bx B y])) g b_ring_Ring_Verify rfl rfl (β := Va.z) [.c (.v (ptrR r.b)), .c (.v (.int .u64 e)), .c (.v (.slice A0 s.length cs)), .c (.v (.slice (some ⟨b0, 0, none⟩) n n))] 0 [] _ rfl rfl hs0 ?_
  refine call_con [] (fun β w' hs => key_c w' r e (hs.get 0 rfl) (hs.getLt 0 rfl) hp) ?_
  unfold verOut
  cases hk : r.key e with
  | none =>
    rintro v Fs ⟨rfl, rfl⟩
    intro β w' hs
    exact hs.fin [0, 1] ⟨rfl, y, hts, rfl⟩
  | some k =>
    have hm2 : k ∈ r.ks := List.mem_of_find?_eq_some hk
    have hkl := hp k hm2
    have hG := mac_good hi (by omega) (k := k.p) (t := partsT ps) (by omega) hln
    rintro v Fs ⟨A, c, rfl, hc, rfl⟩
    refine ⟨.pointer (some ⟨r.bx, 0, none⟩), fun β w' hs => cell_bk (rg_bk (hs.get 1 rfl)) (o := 0) rfl, ?_⟩
    refine call_con [2] (R := outL (bxF r.bx) (macB B k.p (partsT ps))) (fun β w' hs => macQ_c w' r.bx B y A k.p c b0 ps n hn0 hts hi (by omega) (by omega) h0 hpl hln ((hs.ro 0 rfl).mem.take (js := [2, 3, 0, 5, 6]) rfl)) ?_
    rintro v Fs ⟨A2, c2, y2, rfl, q1, q2, hts2, rfl⟩
    have hl32 := hG.2.1
    obtain ⟨bb, hbb⟩ : ∃ bb, decide ((macB B k.p (partsT ps)).1 = s) = bb := ⟨_, rfl⟩
    refine call_pu (v := .bool bb) (fun β w' hs => by rw [← hbb]; exact equal_c w' A2 A0 (macB B k.p (partsT ps)).1 s c2 cs (row_rd (hs.get 0 rfl)) (hs.get 5 rfl) (by omega)) ?_
    cases bb with
    | true =>
      have hq := of_decide_eq_true hbb
      intro β w' hs
      exact hs.fin [3, 1] ⟨by rw [if_pos hq]; rfl, y2, hts2, rfl⟩
    | false =>
      have hq := of_decide_eq_false hbb
      intro β w' hs
      exact hs.fin [3, 1] ⟨by rw [if_neg hq]; rfl, y2, hts2, rfl⟩
/-- Two parts in a local array. -/
theorem two_parts (A B : Option Addr) (l m : List UInt8) (c d : Nat) : partsT [(A, l, c), (B, m, d)] = l ++ m := by simp [partsT]
end Go.Proofs.YtjlpcjpeljlbeaaGreatDoor.Sx

/- The document's example of a ring. -/
namespace Go.Proofs.YtjlpcjpeljlbeaaGreatDoor.Sx
open Go
attribute [local irreducible] Calls

theorem box0i (sym : Bool) : BInv ⟨sym, false, []⟩ := ⟨fun _ q => (by cases q), List.nodup_nil, fun _ q => (by cases q), fun _ => rfl, Nat.zero_le _⟩
theorem keyT_len {e : Nat} (he : e < 100) : (keyT e).data.toList.length ≤ 10 := by
  have hds := decS_size he
  have hks : keyS.size = 4 := rfl
  show (keyS ++ decS e).size ≤ 10
  rw [ByteArray.size_append]
  omega
theorem newK_c (w : World) (bx : Nat) (B : Bx.Box) (y : Lay) (M : Option Addr) (master : List UInt8) (cM room : Nat) (h1 : 1 ≤ master.length) (h2 : master.length ≤ 64) (h3 : 1 ≤ room) (h4 : room ≤ 8) (hts : y.ts.map (·.1) = B.L) (hi : BInv B) (hL : B.L.length < 4000) (hm : Mem w [bxF bx B y, bsF M master, oddF 2, firstF 0]) :
    Con Tryz.prog n_ring_New #[ptrB bx, .slice M master.length cM, .int .i64 (room : Int)] w [bxF bx B y] fun v Fs => ∃ (r : Rg) (y' : Lay), v = .tuple #[ptrR r.b, .int .i64 0] ∧ r.bx = bx ∧ r.master = master ∧ Kept r room 0 (macB B master (keyT 1).data.toList).1 ∧ GoodT B (macB B master (keyT 1).data.toList) ∧ y'.ts.map (·.1) = (macB B master (keyT 1).data.toList).2.L ∧
      Fs = [rgF r, bxF bx (macB B master (keyT 1).data.toList).2 y'] := by
  have hg := mac_good hi (by omega) (k := master) (t := (keyT 1).data.toList) (by omega) (Nat.le_trans (keyT_len (by decide)) (by decide))
  refine (newR_c w bx B y M master cM room h1 h2 h3 h4 hts hi hL hm).mono fun v Fs h => ?_
  obtain ⟨b, mA, mc, m, A, c, y', rfl, hy, rfl⟩ := h
  exact ⟨_, y', by rw [cut_b]; rfl, by rw [cut_bx]; rfl, by rw [cut_master]; rfl, kept_new h2 h3 h4 hg.2.1, hg, hy, rfl⟩
theorem rotateK_c (w : World) (bx : Nat) (r : Rg) (k t : Nat) (k1 : List UInt8) (hk : Kept r k t k1) (hk1 : 1 ≤ k) (ht : t < 90) (hb : r.bx = bx) (B : Bx.Box) (y : Lay) (hts : y.ts.map (·.1) = B.L) (hi : BInv B) (hL : B.L.length < 4000) (hm : Mem w [rgF r, bxF bx B y, oddF 2, firstF 0]) :
    Con Tryz.prog n_ring_Ring_Rotate #[ptrR r.b] w [rgF r, bxF bx B y] fun v Fs => ∃ (r' : Rg) (y' : Lay), v = .tuple #[.int .u64 ((r.epoch + 1 : Nat) : Int), .int .i64 0] ∧ r'.b = r.b ∧ r'.bx = bx ∧ r'.master = r.master ∧ Kept r' k (t + 1) k1 ∧ GoodT B (macB B r.master (keyT (r.epoch + 1)).data.toList) ∧ y'.ts.map (·.1) = (macB B r.master (keyT (r.epoch + 1)).data.toList).2.L ∧
      Fs = [rgF r', bxF bx (macB B r.master (keyT (r.epoch + 1)).data.toList).2 y'] := by
  subst hb
  have hep := hk.ok.ep
  have hma := hk.ok.master
  have hg := mac_good hi (by omega) (k := r.master) (t := (keyT (r.epoch + 1)).data.toList) (by omega) (Nat.le_trans (keyT_len (by omega)) (by decide))
  refine (rotate_c w r B y hk.ok hts hi hL hm).mono fun v Fs h => ?_
  obtain ⟨A, c, y', rfl, hy, rfl⟩ := h
  exact ⟨_, y', rfl, by rw [cut_b]; rfl, by rw [cut_bx]; rfl, by rw [cut_master]; rfl, hk.next hk1 ht hg.2.1, hg, hy, rfl⟩
theorem awake17_c (w : World) (hm : Mem w [oddF 2, firstF 0]) : Con Tryz.prog n_ostiarylaw17_awake #[] w [] fun v Fs => v = .bool true ∧ Fs = [] := by
  have g := good_ostiarylaw17_awake w (Un [])
  have hs0 : Sat (cx_ostiarylaw17_awake w (Un [])) Va.z 0 [] [oddF 2, firstF 0] w := hm.sat0 rfl (ownIn (Gs := []) (fun f hf => by
    simp only [List.mem_cons, List.not_mem_nil, or_false] at hf
    rcases hf with rfl | rfl <;> rfl))
  refine con_of_sx (cx := cx_ostiarylaw17_awake w (Un [])) g b_ostiarylaw17_awake rfl rfl (β := Va.z) [] 0 [] _ rfl rfl hs0 ?_
  refine call_con [] (fun β w' hs => newX_c w' false) ?_
  rintro v Fs ⟨b, y0, rfl, hy0, rfl⟩
  intro b1
  refine ⟨0, _, rfl, ?_⟩
  have hi0 := box0i false
  obtain ⟨B, hB⟩ : ∃ B : Bx.Box, (⟨false, false, []⟩ : Bx.Box) = B := ⟨_, rfl⟩
  have hL0 : B.L.length ≤ 0 := by rw [← hB]; exact Nat.le_refl _
  have hts0 : y0.ts.map (·.1) = B.L := by rw [← hB, hy0]; rfl
  rw [hB] at hi0 ⊢
  refine call_con [1] (fun β w' hs => newK_c w' b B y0 (some ⟨b1, 0, none⟩) [109] 1 2 (by decide) (by decide) (by decide) (by decide) hts0 hi0 (by omega) (hs.mem.take (js := [1, 0, 2, 3]) rfl)) ?_
  rintro v Fs ⟨r, y1, rfl, rb1, _, k1, g1, hy1, rfl⟩
  generalize macB B [109] (keyT 1).data.toList = q1 at *
  obtain ⟨p1, B1⟩ := q1
  have l1 := g1.1.len
  simp only at l1 hy1 k1
  refine call_con [0, 1] (fun β w' hs => rotateK_c w' b r 2 0 p1 k1 (by decide) (by decide) rb1 B1 y1 hy1 g1.1.inv (by omega) (hs.mem.take (js := [0, 1, 3, 4]) rfl)) ?_
  rintro v Fs ⟨r2, y2, rfl, e2, rb2, _, k2, g2, hy2, rfl⟩
  rw [← e2]
  generalize macB B1 r.master (keyT (r.epoch + 1)).data.toList = q2 at *
  obtain ⟨p2, B2⟩ := q2
  have l2 := g2.1.len
  simp only at l2 hy2
  refine call_con [0, 1] (fun β w' hs => rotateK_c w' b r2 2 1 p1 k2 (by decide) (by decide) rb2 B2 y2 hy2 g2.1.inv (by omega) (hs.mem.take (js := [0, 1, 3, 4]) rfl)) ?_
  rintro v Fs ⟨r3, y3, rfl, e3, rb3, _, k3, g3, hy3, rfl⟩
  rw [← e3]
  have hn1 := k3.gone (Nat.le_refl 2)
  have hes := k3.eshi (Nat.le_refl 2)
  have hin : 3 ∈ r3.ks.map (·.e) := by rw [hes]; decide
  refine call_con [] (R := keyOut (r3.key 1)) (fun β w' hs => key_c w' r3 1 (hs.get 0 rfl) (hs.getLt 0 rfl) k3.p) ?_
  rw [hn1]
  rintro v Fs ⟨rfl, rfl⟩
  obtain ⟨q, hq, _, _⟩ := key_in hin
  refine call_con [0] (R := retOut r3 3) (fun β w' hs => retire_c w' r3 3 k3.p (hs.mem.take (js := [0]) rfl)) ?_
  unfold retOut
  rw [show r3.key 3 = some q from hq]
  rintro v Fs ⟨rfl, rfl⟩
  have hep := k3.ep
  refine call_pu (fun β w' hs => signNo_c w' (r3.drop 3) (.slice none 0 0) (hs.get 0 rfl) (hs.getLt 0 rfl) (fun k hk => k3.p k (drop_sub hk)) (by show (r3.drop 3).key (r3.epoch : Int) = none; rw [hep]; exact drop_none k3.ok 3)) ?_
  have hl : (r3.drop 3).ks.length = 1 := by
    rw [show r3.drop 3 = r3.drop ((3 : Nat) : Int) from rfl, drop_len hin, (k3.hi (Nat.le_refl 2)).1]
  refine call_pu (v := .int .i64 1) (fun β w' hs => by
    have h := rlen_c w' (r3.drop 3) (hs.get 0 rfl) (hs.getLt 0 rfl)
    rw [hl] at h
    exact h) ?_
  intro β w' hs
  exact hs.fin [] ⟨rfl, rfl⟩
end Go.Proofs.YtjlpcjpeljlbeaaGreatDoor.Sx

/- The document's ring: its keys. -/
namespace Go.Proofs.YtjlpcjpeljlbeaaGreatDoor.Sx
open Go
attribute [local irreducible] Calls

structure RR where
  b : Nat
  bx : Nat
  mA : Option Addr
  mc : Nat
  master : List UInt8
  room : Nat
  LA : Option Addr
  Lc : Nat
  es : List Int
  epoch : Nat
def RR.vs (x : RR) : List Value := [.pointer (some ⟨x.bx, 0, none⟩), .slice x.mA x.master.length x.mc, .int .i64 (x.room : Int), .slice x.LA x.es.length x.Lc, .int .u64 (x.epoch : Int)]
def RR.fs (x : RR) : List Fact := [bkF x.b ty_ostiaryref17_Ring x.vs, browF ty_uint8 x.mA x.master x.mc, rdoF 1 x.LA x.es.length (x.es.map (Value.int .u64))]
def rrF (x : RR) : Fact := sepF x.fs
theorem rr_bk {x : RR} {w : World} (h : (rrF x).p w) : (bkF x.b ty_ostiaryref17_Ring x.vs).p w := h.1 _ (by simp [RR.fs])
theorem rr_es {x : RR} {w : World} (h : (rrF x).p w) : Rd 1 x.LA x.es.length (x.es.map (Value.int .u64)) w := h.1 (rdoF 1 x.LA x.es.length (x.es.map (Value.int .u64))) (by simp [RR.fs])
theorem rr_old {x : RR} {W w : World} (h : (rrF x).p W) (hD : ∀ k, (rrF x).D k → k < W.heap.size) (ho : (oldF W).p w) : (rrF x).p w := fact_oldR h hD ho
theorem rhas_c (w : World) (x : RR) (e : Int) (hn : x.es.length ≤ 1000) (h : (rrF x).p w) (hl : ∀ k, (rrF x).D k → k < w.heap.size) : Pu Tryz.prog n_ostiaryref17_has #[ptrR x.b, .int .u64 e] w (.bool (decide (e ∈ x.es))) := by
  have g := good_ostiaryref17_has w (Un [])
  refine con_of_sx (cx := cx_ostiaryref17_has w (Un [])) g b_ostiaryref17_has rfl rfl (β := Va.z) [.c (.v (ptrR x.b)), .c (.v (.int .u64 e))] 0 [] [oldF w] rfl rfl (old_sat rfl) ?_
  refine ⟨.slice x.LA x.es.length x.Lc, fun β w' hs => cell_bk (rr_bk (rr_old h hl (hs.get 0 rfl))) (o := 3) rfl, ?_⟩
  refine loop_rule (ι := Nat) 0 (fun i => [(1, .c (.v (.int .u64 e))), (10, .c (.v (.slice x.LA x.es.length x.Lc))), (11, .c (.v (.int .i64 (x.es.length : Int)))), (12, .c (.v (.int .i64 (i : Int))))]) (fun _ => []) (fun _ => [oldF w])
    (fun i => i ≤ x.es.length ∧ e ∉ x.es.take i) (fun i => x.es.length - i) 0 ⟨Nat.zero_le _, by simp⟩ (Ent.same ⟨rfl, rfl, rfl, rfl, trivial⟩ rfl) g ?_
  rintro i ⟨hi, hno⟩
  refine BIf.dec (fun hlt => ?_) (fun hge => ?_)
  · have hlt0 : (i : Int) < x.es.length := hlt
    have hil : i < x.es.length := by omega
    obtain ⟨y, hy, hym⟩ := at_lt hil
    have h0 := rr_es h
    obtain ⟨ad, hA, _⟩ := h0.2 (by omega)
    refine ⟨ad, i, hA, rfl, hil, .int .u64 y, fun β w' hs => Rd.cell1 (by have h := rr_es (rr_old h hl (hs.get 0 rfl)); rw [hA] at h; exact h) (by rw [List.getElem?_map, hy]; rfl), ?_⟩
    refine BIf.dec (fun heq => ?_) (fun hne => ?_)
    · have heq0 : y = e := heq
      subst heq0
      intro β w' hs
      exact hs.fin [] ⟨by rw [decide_eq_true hym]; rfl, rfl⟩
    · have hne0 : ¬ y = e := hne
      refine ⟨((i + 1 : Nat) : Int), by rw [wrap_i64 (by omega) (by omega)]; rfl, ?_⟩
      refine ⟨i + 1, ⟨hil, ?_⟩, by omega, Ent.same ⟨rfl, rfl, rfl, rfl, trivial⟩ rfl⟩
      rw [List.take_add_one, hy]
      intro q
      rcases List.mem_append.1 q with q | q
      · exact hno q
      · exact hne0 (List.mem_singleton.1 q).symm
  · have hge0 : ¬ (i : Int) < x.es.length := hge
    rw [List.take_of_length_le (by omega)] at hno
    intro β w' hs
    exact hs.fin [] ⟨by rw [decide_eq_false hno]; rfl, rfl⟩
def outR (x : RR) (r : List UInt8 × Bx.Box) (v : Value) (Fs : List Fact) : Prop :=
  ∃ A c z', v = .slice A r.1.length c ∧ r.1.length ≤ c ∧ z'.ts.map (·.1) = r.2.L ∧ Fs = [browF ty_uint8 A r.1 c, rbxF x.bx r.2 z', rrF x]
/-- A key, made once more. -/
theorem rkey_c (w : World) (x : RR) (e : Nat) (he : e < 100) (B : Bx.Box) (z : Lay) (hma : x.master.length ≤ 64) (hts : z.ts.map (·.1) = B.L) (hi : BInv B) (hL : B.L.length < 4096) (hm : Mem w [rbxF x.bx B z, rrF x, oddF 8]) :
    Con Tryz.prog n_ostiaryref17_key #[ptrR x.b, .int .u64 (e : Int)] w [rbxF x.bx B z, rrF x] (outR x (macB B x.master (keyT e).data.toList)) := by
  have g := good_ostiaryref17_key w (Un [rbxF x.bx B z, rrF x])
  have hml := maxLen_eq
  have hs0 : Sat (cx_ostiaryref17_key w (Un [rbxF x.bx B z, rrF x])) Va.z 0 [] [rbxF x.bx B z, rrF x, oddF 8] w := hm.sat0 rfl (ownIn (Gs := [rbxF x.bx B z, rrF x]) (fun f hf => by
    simp only [List.mem_cons, List.not_mem_nil, or_false] at hf
    rcases hf with rfl; rfl))
  obtain ⟨ee, hee⟩ : ∃ ee : Int, (e : Int) = ee := ⟨_, rfl⟩
  rw [hee]
  refine con_of_sx (cx := cx_ostiaryref17_key w (Un [rbxF x.bx B z, rrF x])) g b_ostiaryref17_key rfl rfl (β := Va.z) [.c (.v (ptrR x.b)), .c (.v (.int .u64 ee))] 0 [] _ rfl rfl hs0 ?_
  have hds := decS_size he
  have hks : keyS.size = 4 := rfl
  have hkl := keyT_len he
  refine draw_rule g p_ostiaryref17_key_1 (by kernel_rfl) [] [rrF x] (subPerm [1]) ?_
  refine ⟨.pointer (some ⟨x.bx, 0, none⟩), fun β w' hs => cell_bk (rr_bk (hs.get 0 rfl)) (o := 0) rfl, ?_⟩
  refine ⟨.slice x.mA x.master.length x.mc, fun β w' hs => cell_bk (rr_bk (hs.get 0 rfl)) (o := 1) rfl, ?_⟩
  refine call_pu (v := .string (decS e)) (fun β w' hs => by rw [← hee]; exact dec_c w' e (by omega)) ?_
  refine ⟨subPerm [1], ?_⟩
  refine ⟨by show keyS.size + (decS e).size ≤ maxLen; omega, ?_⟩
  intro bb cb hcb _
  refine ⟨subPerm [2], ?_⟩
  refine call_con [1] (R := outL (rbxF x.bx) (macB B x.master (keyT e).data.toList)) (fun β w' hs => by
    have h := ((hs.unsep 2 rfl).ro 1 rfl).unown 3 rfl
    exact rmacL_c w' x.bx B z x.mA (some ⟨bb, 0, none⟩) x.master (keyT e).data.toList x.mc cb hts hi hL (by omega) (by omega) (h.mem.take (js := [4, 1, 3, 5]) rfl)) ?_
  rintro v Fs ⟨A, c, y1, rfl, q1, q2, hts1, rfl⟩
  refine ⟨subPerm [3], ?_⟩
  intro β w' hs
  exact hs.fin [0, 1, 3] ⟨A, c, y1, rfl, q1, hts1, rfl⟩ rfl rfl rfl ⟨rfl, rfl, rfl, trivial⟩
/-- A key that is there, or none. -/
def RKy (x : RR) (B : Bx.Box) (e : Int) : Option (List UInt8) → Prop
  | none => e ∉ x.es
  | some p => e ∈ x.es ∧ p.length = 32 ∧ ∃ n : Nat, e = (n : Int) ∧ n < 100 ∧ macB B x.master (keyT n).data.toList = (p, B)
theorem rKey_c (w : World) (x : RR) (e : Int) (o : Option (List UInt8)) (B : Bx.Box) (z : Lay) (ho : RKy x B e o) (hn : x.es.length ≤ 1000) (hma : x.master.length ≤ 64) (hts : z.ts.map (·.1) = B.L) (hi : BInv B) (hL : B.L.length < 4096) (hm : Mem w [rbxF x.bx B z, rrF x, oddF 8]) :
    Con Tryz.prog n_ostiaryref17_Key #[ptrR x.b, .int .u64 e] w [rbxF x.bx B z, rrF x] fun v Fs => ∃ A c z', v = .slice A (o.getD []).length c ∧ (o.getD []).length ≤ c ∧ z'.ts.map (·.1) = B.L ∧ Fs = [browF ty_uint8 A (o.getD []) c, rbxF x.bx B z', rrF x] := by
  have g := good_ostiaryref17_Key w (Un [rbxF x.bx B z, rrF x])
  have hs0 : Sat (cx_ostiaryref17_Key w (Un [rbxF x.bx B z, rrF x])) Va.z 0 [] [rbxF x.bx B z, rrF x, oddF 8] w := hm.sat0 rfl (ownIn (Gs := [rbxF x.bx B z, rrF x]) (fun f hf => by
    simp only [List.mem_cons, List.not_mem_nil, or_false] at hf
    rcases hf with rfl; rfl))
  refine con_of_sx (cx := cx_ostiaryref17_Key w (Un [rbxF x.bx B z, rrF x])) g b_ostiaryref17_Key rfl rfl (β := Va.z) [.c (.v (ptrR x.b)), .c (.v (.int .u64 e))] 0 [] _ rfl rfl hs0 ?_
  cases o with
  | none =>
    have hno : e ∉ x.es := ho
    refine call_pu (v := .bool false) (fun β w' hs => by
      have h := rhas_c w' x e hn (hs.get 1 rfl) (hs.getLt 1 rfl)
      rw [decide_eq_false hno] at h
      exact h) ?_
    intro β w' hs
    exact (hs.nilRow ty_uint8 1).fin [0, 1, 2] ⟨none, 0, z, rfl, Nat.le_refl _, hts, rfl⟩ rfl rfl rfl ⟨rfl, rfl, rfl, trivial⟩
  | some p =>
    obtain ⟨hin, hp, n, rfl, hn100, hmac⟩ := ho
    refine call_pu (v := .bool true) (fun β w' hs => by
      have h := rhas_c w' x (n : Int) hn (hs.get 1 rfl) (hs.getLt 1 rfl)
      rw [decide_eq_true hin] at h
      exact h) ?_
    refine call_con [0, 1] (fun β w' hs => rkey_c w' x n hn100 B z hma hts hi hL (hs.mem.take (js := [0, 1, 2]) rfl)) ?_
    rintro v Fs ⟨A, c, z', rfl, q1, q2, rfl⟩
    rw [hmac] at q1 q2 ⊢
    intro β w' hs
    exact hs.fin [0, 1, 2] ⟨A, c, z', rfl, q1, q2, rfl⟩ rfl rfl rfl ⟨rfl, rfl, rfl, trivial⟩
/-- A sum by the newest key, or none. -/
def rsgOut (x : RR) (B : Bx.Box) (o : Option (List UInt8)) (l : List UInt8) (v : Value) (Fs : List Fact) : Prop := match o with
  | none => ∃ z', v = .tuple #[.int .u64 0, .slice none 0 0, .int .i64 15] ∧ z'.ts.map (·.1) = B.L ∧ Fs = [browF ty_uint8 none [] 0, rbxF x.bx B z', rrF x]
  | some p => ∃ A c z', v = .tuple #[.int .u64 (x.epoch : Int), .slice A (macB B p l).1.length c, .int .i64 0] ∧ (macB B p l).1.length ≤ c ∧ z'.ts.map (·.1) = (macB B p l).2.L ∧ Fs = [browF ty_uint8 A (macB B p l).1 c, rbxF x.bx (macB B p l).2 z', rrF x]
theorem rSign_c (w : World) (x : RR) (o : Option (List UInt8)) (B : Bx.Box) (z : Lay) (P : Option Addr) (l : List UInt8) (cP : Nat) (ho : RKy x B (x.epoch : Int) o) (hn : x.es.length ≤ 1000) (hma : x.master.length ≤ 64) (hln : l.length ≤ 1000000) (hts : z.ts.map (·.1) = B.L) (hi : BInv B) (hL : B.L.length < 4096) (hm : Mem w [rbxF x.bx B z, rrF x, bsF P l, oddF 8]) :
    Con Tryz.prog n_ostiaryref17_Sign #[ptrR x.b, .slice P l.length cP] w [rbxF x.bx B z, rrF x] (rsgOut x B o l) := by
  have g := good_ostiaryref17_Sign w (Un [rbxF x.bx B z, rrF x])
  have hs0 : Sat (cx_ostiaryref17_Sign w (Un [rbxF x.bx B z, rrF x])) Va.z 0 [] [rbxF x.bx B z, rrF x, bsF P l, oddF 8] w := hm.sat0 rfl (ownIn (Gs := [rbxF x.bx B z, rrF x]) (fun f hf => by
    simp only [List.mem_cons, List.not_mem_nil, or_false] at hf
    rcases hf with rfl | rfl <;> rfl))
  refine con_of_sx (cx := cx_ostiaryref17_Sign w (Un [rbxF x.bx B z, rrF x])) g b_ostiaryref17_Sign rfl rfl (β := Va.z) [.c (.v (ptrR x.b)), .c (.v (.slice P l.length cP))] 0 [] _ rfl rfl hs0 ?_
  obtain ⟨ep, hep⟩ : ∃ ep : Int, (x.epoch : Int) = ep := ⟨_, rfl⟩
  rw [hep] at ho
  refine ⟨.int .u64 ep, fun β w' hs => by rw [← hep]; exact cell_bk (rr_bk (hs.get 1 rfl)) (o := 4) rfl, ?_⟩
  refine call_con [0, 1] (fun β w' hs => rKey_c w' x ep o B z ho hn hma hts hi hL (hs.mem.take (js := [0, 1, 3]) rfl)) ?_
  rintro v Fs ⟨A, c, z', rfl, q1, hz1, rfl⟩
  cases o with
  | none =>
    intro β w' hs
    exact (hs.nilRow ty_uint8 1).fin [0, 2, 3] ⟨z', rfl, hz1, rfl⟩ rfl rfl rfl ⟨rfl, rfl, rfl, trivial⟩
  | some p =>
    obtain ⟨_, hp, _⟩ := ho
    have hne : ¬ (p.length : Int) = 0 := by omega
    refine BIf.dec (fun h => absurd h hne) (fun _ => ?_)
    refine draw_rule g p_ostiaryref17_Sign_4 (by kernel_rfl) [] [rrF x] (subPerm [2]) ?_
    refine ⟨.int .u64 ep, fun β w' hs => by rw [← hep]; exact cell_bk (rr_bk (hs.get 0 rfl)) (o := 4) rfl, ?_⟩
    refine ⟨.pointer (some ⟨x.bx, 0, none⟩), fun β w' hs => cell_bk (rr_bk (hs.get 0 rfl)) (o := 0) rfl, ?_⟩
    refine call_con [1] (R := outL (rbxF x.bx) (macB B p l)) (fun β w' hs => rmacL_c w' x.bx B z' A P p l c cP hz1 hi hL (by omega) hln ((hs.ro 0 rfl).mem.take (js := [1, 0, 3, 4]) rfl)) ?_
    rintro v Fs ⟨A2, c2, y1, rfl, q3, q4, hts1, rfl⟩
    refine ⟨subPerm [3], ?_⟩
    intro β w' hs
    exact hs.fin [0, 1, 3] ⟨A2, c2, y1, by rw [hep]; rfl, q3, hts1, rfl⟩ rfl rfl rfl ⟨rfl, rfl, rfl, trivial⟩
def rvrOut (x : RR) (B : Bx.Box) (o : Option (List UInt8)) (s l : List UInt8) (v : Value) (Fs : List Fact) : Prop := match o with
  | none => ∃ z', v = .int .i64 15 ∧ z'.ts.map (·.1) = B.L ∧ Fs = [rbxF x.bx B z', rrF x]
  | some p => ∃ z', v = .int .i64 (if (macB B p l).1 = s then 0 else 13) ∧ z'.ts.map (·.1) = (macB B p l).2.L ∧ Fs = [rbxF x.bx (macB B p l).2 z', rrF x]
theorem rVerify_c (w : World) (x : RR) (e : Int) (o : Option (List UInt8)) (B : Bx.Box) (z : Lay) (S : Option Addr) (s : List UInt8) (cS : Nat) (P : Option Addr) (l : List UInt8) (cP : Nat) (ho : RKy x B e o) (hn : x.es.length ≤ 1000) (hma : x.master.length ≤ 64) (hln : l.length ≤ 1000000) (hts : z.ts.map (·.1) = B.L) (hi : BInv B) (hL : B.L.length < 4096) (hm : Mem w [rbxF x.bx B z, rrF x, bsF S s, bsF P l, oddF 8]) :
    Con Tryz.prog n_ostiaryref17_Verify #[ptrR x.b, .int .u64 e, .slice S s.length cS, .slice P l.length cP] w [rbxF x.bx B z, rrF x] (rvrOut x B o s l) := by
  have g := good_ostiaryref17_Verify w (Un [rbxF x.bx B z, rrF x])
  have hs0 : Sat (cx_ostiaryref17_Verify w (Un [rbxF x.bx B z, rrF x])) Va.z 0 [] [rbxF x.bx B z, rrF x, bsF S s, bsF P l, oddF 8] w := hm.sat0 rfl (ownIn (Gs := [rbxF x.bx B z, rrF x]) (fun f hf => by
    simp only [List.mem_cons, List.not_mem_nil, or_false] at hf
    rcases hf with rfl | rfl | rfl <;> rfl))
  refine con_of_sx (cx := cx_ostiaryref17_Verify w (Un [rbxF x.bx B z, rrF x])) g b_ostiaryref17_Verify rfl rfl (β := Va.z) [.c (.v (ptrR x.b)), .c (.v (.int .u64 e)), .c (.v (.slice S s.length cS)), .c (.v (.slice P l.length cP))] 0 [] _ rfl rfl hs0 ?_
  refine call_con [0, 1] (fun β w' hs => rKey_c w' x e o B z ho hn hma hts hi hL (hs.mem.take (js := [0, 1, 4]) rfl)) ?_
  rintro v Fs ⟨A, c, z', rfl, q1, hz1, rfl⟩
  cases o with
  | none =>
    intro β w' hs
    exact hs.fin [1, 2] ⟨z', rfl, hz1, rfl⟩
  | some p =>
    obtain ⟨_, hp, _⟩ := ho
    have hne : ¬ (p.length : Int) = 0 := by omega
    refine BIf.dec (fun h => absurd h hne) (fun _ => ?_)
    refine ⟨.pointer (some ⟨x.bx, 0, none⟩), fun β w' hs => cell_bk (rr_bk (hs.get 2 rfl)) (o := 0) rfl, ?_⟩
    refine call_con [1] (R := outL (rbxF x.bx) (macB B p l)) (fun β w' hs => rmacL_c w' x.bx B z' A P p l c cP hz1 hi hL (by omega) hln ((hs.ro 0 rfl).mem.take (js := [1, 0, 4, 5]) rfl)) ?_
    rintro v Fs ⟨A2, c2, y1, rfl, q3, q4, hts1, rfl⟩
    obtain ⟨bb, hbb⟩ : ∃ bb, decide ((macB B p l).1 = s) = bb := ⟨_, rfl⟩
    refine call_pu (v := .bool bb) (fun β w' hs => by rw [← hbb]; exact pu_of (same_c w' A2 S (macB B p l).1 s c2 cS (row_rd (hs.get 0 rfl)) (hs.get 4 rfl))) ?_
    cases bb with
    | true =>
      have hq := of_decide_eq_true hbb
      intro β w' hs
      exact hs.fin [1, 3] ⟨y1, by rw [if_pos hq]; rfl, hts1, rfl⟩
    | false =>
      have hq := of_decide_eq_false hbb
      intro β w' hs
      exact hs.fin [1, 3] ⟨y1, by rw [if_neg hq]; rfl, hts1, rfl⟩
end Go.Proofs.YtjlpcjpeljlbeaaGreatDoor.Sx

/- The document's ring: a new epoch, a key that goes. -/
namespace Go.Proofs.YtjlpcjpeljlbeaaGreatDoor.Sx
open Go
attribute [local irreducible] Calls

theorem Rd.cutV {w : World} {A : Option Addr} {xs : List Value} {n : Nat} (h : Rd 1 A n xs w) {m i j : Nat} (hm : j ≤ m) (hij : i ≤ j) (hj : j ≤ n) : Rd 1 (cutA A m i 1) (j - i) ((xs.drop i).take (j - i)) w := by
  have hl := h.1
  rw [Nat.mul_one] at hl
  refine ⟨by rw [List.length_take, List.length_drop]; omega, fun hp => ?_⟩
  obtain ⟨ad, rfl, hc⟩ := h.2 (by omega)
  have hne : ¬ m = i := by omega
  refine ⟨ad.add (i * 1), by simp [cutA, hne], fun k u hk => ?_⟩
  rw [add_add', Nat.mul_one]
  refine hc (i + k) u ?_
  rw [← hk]
  have hkl : k < j - i := by
    have := (List.getElem?_eq_some_iff.1 hk).1
    rw [List.length_take] at this
    omega
  rw [List.getElem?_take, if_pos hkl, List.getElem?_drop]
theorem cutV_D {A : Option Addr} {c i k n m : Nat} {xs ys : List Value} (hm : m ≤ n) (h : (rdF 1 (cutA A c i 1) m ys).D k) : (rdF 1 A n xs).D k := by
  obtain ⟨h0, ad, hA, rfl⟩ := h
  have h0' : 0 < m * 1 := h0
  unfold cutA at hA
  split at hA
  · exact ⟨by show 0 < n * 1; omega, ad, hA, rfl⟩
  · cases A with
    | none => cases hA
    | some a =>
      have hA' : a.add (i * 1) = ad := by simpa using hA
      exact ⟨by show 0 < n * 1; omega, a, rfl, by rw [← hA']; unfold Addr.add; split <;> rfl⟩
section
variable {cx : Cx} {β : Va} {n : Nat} {H : List Bk} {w : World} {f1 f2 : Fact}
theorem Sat.rowRdo {F : List Fact} (h : Sat cx β n H F w) (j : Nat) {e size k c : Nat} {A : Option Addr} {xs : List Value} (hj : nth F j = some (rowF e size (.slice A k c) k xs)) : Sat cx β n H (putAt F j (rdoF size A k xs)) w :=
  h.upd hj rfl (Chg.refl _ _) (row_rd (h.get j hj)) (fun _ hq => .inl (row_D hq))
/-- The epochs' list is another one. -/
theorem Sat.setL {x : RR} {A : Option Addr} {l : List Int} {c : Nat} (h : Sat cx β n H [rrF x, urowF A l c, f1, f2] w) : ∃ w', (storeCells ((⟨x.b, 0, none⟩ : Addr).add 3) [.slice A l.length c] 0).run cx.P w = .ok () w' ∧ Sat cx β n H [rrF { x with LA := A, Lc := c, es := l }, f1, f2] w' := by
  have h1 := h.unsep 0 rfl
  have h2 : Sat cx β n H [bkF x.b ty_ostiaryref17_Ring x.vs, browF ty_uint8 x.mA x.master x.mc, rdoF 1 x.LA x.es.length (x.es.map (Value.int .u64)), urowF A l c, f1, f2] w := h1
  obtain ⟨w2, e1, e2⟩ := h2.bkSet 0 (o := 3) (us := [.slice A l.length c]) rfl (by show 4 ≤ 5; decide) (one_mem rfl)
  refine ⟨w2, e1, ?_⟩
  have h3 := (e2.rowRdo 3 rfl).sep [0, 1, 3] rfl ⟨rfl, rfl, rfl, trivial⟩
  exact h3.perm [0, 2, 3]
/-- The epochs' list without the first. -/
theorem Sat.cutL {x : RR} (h : Sat cx β n H [rrF x, f1, f2] w) (hc : x.es.length ≤ x.Lc) (h0 : 0 < x.es.length) : ∃ w', (storeCells ((⟨x.b, 0, none⟩ : Addr).add 3) [.slice (cutA x.LA x.Lc 1 1) (x.es.length - 1) (x.Lc - 1)] 0).run cx.P w = .ok () w' ∧ Sat cx β n H [rrF { x with LA := cutA x.LA x.Lc 1 1, Lc := x.Lc - 1, es := x.es.tail }, f1, f2] w' := by
  have h1 := h.unsep 0 rfl
  have h2 : Sat cx β n H [bkF x.b ty_ostiaryref17_Ring x.vs, browF ty_uint8 x.mA x.master x.mc, rdoF 1 x.LA x.es.length (x.es.map (Value.int .u64)), f1, f2] w := h1
  obtain ⟨w2, e1, e2⟩ := h2.bkSet 0 (o := 3) (us := [.slice (cutA x.LA x.Lc 1 1) (x.es.length - 1) (x.Lc - 1)]) rfl (by show 4 ≤ 5; decide) (one_mem rfl)
  refine ⟨w2, e1, ?_⟩
  have hl : x.es.tail.length = x.es.length - 1 := List.length_tail
  have e3 := e2.upd (j := 2) (f' := rdoF 1 (cutA x.LA x.Lc 1 1) x.es.tail.length (x.es.tail.map (Value.int .u64))) rfl rfl (Chg.refl _ _) (by
    have h4 : Rd 1 x.LA x.es.length (x.es.map (Value.int .u64)) w2 := e2.get 2 rfl
    have h5 := h4.cutV (m := x.Lc) (i := 1) (j := x.es.length) hc h0 (Nat.le_refl _)
    rw [List.take_of_length_le (by simp)] at h5
    show Rd 1 _ x.es.tail.length (x.es.tail.map (Value.int .u64)) w2
    rw [hl, List.map_tail, ← List.drop_one]
    exact h5) (fun _ hq => .inl (cutV_D (xs := x.es.map (Value.int .u64)) (ys := x.es.tail.map (Value.int .u64)) (by rw [hl]; omega) hq))
  have h6 := e3.sep [0, 1, 2] rfl ⟨rfl, rfl, rfl, trivial⟩
  have e : rrF { x with LA := cutA x.LA x.Lc 1 1, Lc := x.Lc - 1, es := x.es.tail } = sepF [bkF x.b ty_ostiaryref17_Ring (putAll x.vs 3 [.slice (cutA x.LA x.Lc 1 1) (x.es.length - 1) (x.Lc - 1)]), browF ty_uint8 x.mA x.master x.mc, rdoF 1 (cutA x.LA x.Lc 1 1) x.es.tail.length (x.es.tail.map (Value.int .u64))] := by
    rw [← hl]
    rfl
  rw [e]
  exact h6
end
def RR.more (x : RR) : RR := { x with epoch := x.epoch + 1 }
/-- The list of epochs with one more, cut. -/
def moreL (es : List Int) (e : Int) (room : Nat) : List Int := if room < (es ++ [e]).length then (es ++ [e]).tail else es ++ [e]
def rotOut (x : RR) (B : Bx.Box) (v : Value) (Fs : List Fact) : Prop :=
  ∃ (x' : RR) (z' : Lay), v = .int .u64 ((x.epoch + 1 : Nat) : Int) ∧ x'.b = x.b ∧ x'.bx = x.bx ∧ x'.master = x.master ∧ x'.room = x.room ∧ x'.epoch = x.epoch + 1 ∧ x'.es = moreL x.es ((x.epoch + 1 : Nat) : Int) x.room ∧ x'.es.length ≤ x'.Lc ∧ z'.ts.map (·.1) = (macB B x.master (keyT (x.epoch + 1)).data.toList).2.L ∧
    Fs = [rbxF x.bx (macB B x.master (keyT (x.epoch + 1)).data.toList).2 z', rrF x']
theorem rRot_c (w : World) (x : RR) (B : Bx.Box) (z : Lay) (hep : x.epoch < 98) (hn : x.es.length ≤ 1000) (hma : x.master.length ≤ 64) (hts : z.ts.map (·.1) = B.L) (hi : BInv B) (hL : B.L.length < 4096) (hm : Mem w [rbxF x.bx B z, rrF x, oddF 8]) :
    Con Tryz.prog n_ostiaryref17_Rotate #[ptrR x.b] w [rbxF x.bx B z, rrF x] (rotOut x B) := by
  have g := good_ostiaryref17_Rotate w (Un [rbxF x.bx B z, rrF x])
  have hml := maxLen_eq
  have hs0 : Sat (cx_ostiaryref17_Rotate w (Un [rbxF x.bx B z, rrF x])) Va.z 0 [] [rbxF x.bx B z, rrF x, oddF 8] w := hm.sat0 rfl (ownIn (Gs := [rbxF x.bx B z, rrF x]) (fun f hf => by
    simp only [List.mem_cons, List.not_mem_nil, or_false] at hf
    rcases hf with rfl; rfl))
  refine con_of_sx (cx := cx_ostiaryref17_Rotate w (Un [rbxF x.bx B z, rrF x])) g b_ostiaryref17_Rotate rfl rfl (β := Va.z) [.c (.v (ptrR x.b))] 0 [] _ rfl rfl hs0 ?_
  obtain ⟨e0, he0⟩ : ∃ e0 : Int, (x.epoch : Int) = e0 := ⟨_, rfl⟩
  obtain ⟨e1, he1⟩ : ∃ e1 : Int, ((x.epoch + 1 : Nat) : Int) = e1 := ⟨_, rfl⟩
  refine ⟨.int .u64 e0, fun β w' hs => by rw [← he0]; exact cell_bk (rr_bk (hs.get 1 rfl)) (o := 4) rfl, ?_⟩
  refine ⟨e1, by rw [wrap_u64']; omega, ?_⟩
  refine ⟨[rrF x.more, rbxF x.bx B z, oddF 8], fun β w' hs => by
    have h1 := hs.unsep 1 rfl
    obtain ⟨w2, q1, q2⟩ := h1.bkSet 0 (o := 4) (us := [.int .u64 e1]) rfl (by show 5 ≤ 5; decide) (one_mem rfl)
    refine ⟨w2, q1, ?_⟩
    have h2 := q2.sep [0, 1, 2] rfl ⟨rfl, rfl, rfl, trivial⟩
    rw [← he1] at h2
    exact h2, ?_⟩
  refine ⟨.int .u64 e1, fun β w' hs => by rw [← he1]; exact cell_bk (rr_bk (hs.get 0 rfl)) (o := 4) rfl, ?_⟩
  refine call_con [1, 0] (R := outR x.more (macB B x.master (keyT (x.epoch + 1)).data.toList)) (fun β w' hs => by rw [← he1]; exact rkey_c w' x.more (x.epoch + 1) (by omega) B z hma hts hi hL (hs.mem.take (js := [1, 0, 2]) rfl)) ?_
  rintro v Fs ⟨A0, c0, z1, rfl, q1, hz1, rfl⟩
  obtain ⟨⟨kp, kB⟩, hkk⟩ : ∃ q, macB B x.master (keyT (x.epoch + 1)).data.toList = q := ⟨_, rfl⟩
  rw [hkk] at hz1 q1 ⊢
  simp only at hz1 q1 ⊢
  obtain ⟨l2, hl2, hv2, hl2e⟩ : ∃ l2 : List Int, l2.length = x.es.length + 1 ∧ x.es.map (Value.int .u64) ++ [.int .u64 e1] = l2.map (Value.int .u64) ∧ x.es ++ [((x.epoch + 1 : Nat) : Int)] = l2 := ⟨_, by rw [List.length_append]; rfl, by rw [List.map_append, he1]; rfl, rfl⟩
  have hone : ∀ u ∈ x.es.map (Value.int .u64), u.oneCell' = true := fun u hu => by
    obtain ⟨y, _, rfl⟩ := List.mem_map.1 hu
    rfl
  obtain ⟨rm, hrm⟩ : ∃ rm : Int, (x.room : Int) = rm := ⟨_, rfl⟩
  refine draw_rule g p_ostiaryref17_Rotate_3 (by kernel_rfl) [] [rrF x.more] (subPerm [2]) ?_
  refine ⟨.slice x.LA x.es.length x.Lc, fun β w' hs => cell_bk (rr_bk (hs.get 0 rfl)) (o := 3) rfl, ?_⟩
  refine ⟨.int .u64 e1, fun β w' hs => by rw [← he1]; exact cell_bk (rr_bk (hs.get 0 rfl)) (o := 4) rfl, ?_⟩
  refine ⟨?_, ?_⟩
  · intro b1
    refine ⟨subPerm [3], ?_⟩
    refine ⟨?_, ?_⟩
    · refine ⟨0, 0, x.es.length, [], x.es.map (Value.int .u64), x.es.map (Value.int .u64), rfl, fun β w' hs => rr_es (x := x.more) (hs.get 3 rfl), hone, Nat.zero_add _, rfl, by omega, by show x.es.length * 8 ≤ _; omega, ?_⟩
      intro A1 c1 p1 p2 p3
      refine ⟨subPerm [3], ?_⟩
      intro b2
      refine ⟨subPerm [4], ?_⟩
      refine ⟨1, x.es.length, l2.length, x.es.map (Value.int .u64), [.int .u64 e1], l2.map (Value.int .u64), rfl, fun β w' hs => row_rd (hs.get 0 rfl), one_mem rfl, hl2.symm, hv2, by omega, by show l2.length * 8 ≤ _; omega, ?_⟩
      intro A2 c2 hc2 p5 p6
      refine ⟨subPerm [4], ?_⟩
      refine ⟨subPerm [4], ?_⟩
      refine ⟨[rrF { x.more with LA := A2, Lc := c2, es := l2 }, rbxF x.bx kB z1, oddF 8], fun β w' hs => (hs.perm [4, 1, 3, 5]).setL, ?_⟩
      refine draw_rule g p_ostiaryref17_Rotate_4 (by kernel_rfl) [] [rrF { x.more with LA := A2, Lc := c2, es := l2 }] (subPerm [0]) ?_
      refine ⟨.slice A2 l2.length c2, fun β w' hs => cell_bk (rr_bk (hs.get 0 rfl)) (o := 3) rfl, ?_⟩
      refine ⟨.int .i64 rm, fun β w' hs => by rw [← hrm]; exact cell_bk (rr_bk (hs.get 0 rfl)) (o := 2) rfl, ?_⟩
      refine BIf.dec (fun hlt => ?_) (fun hge => ?_)
      · have hlt0 : rm < (l2.length : Int) := hlt
        refine ⟨.slice A2 l2.length c2, fun β w' hs => cell_bk (rr_bk (hs.get 0 rfl)) (o := 3) rfl, ?_⟩
        refine ⟨c2, l2.length, 1, l2.length - 1, c2 - 1, _, rfl, rfl, rfl, Nat.le_refl _, hc2, by omega, rfl, rfl, rfl, ?_⟩
        refine ⟨_, fun β w' hs => hs.cutL hc2 (by show 0 < l2.length; omega), ?_⟩
        refine ⟨.int .u64 e1, fun β w' hs => by rw [← he1]; exact cell_bk (rr_bk (hs.get 0 rfl)) (o := 4) rfl, ?_⟩
        intro β w' hs
        refine hs.fin [1, 0] ⟨{ x.more with LA := cutA A2 c2 1 1, Lc := c2 - 1, es := l2.tail }, z1, by rw [he1]; rfl, rfl, rfl, rfl, rfl, rfl, ?_, ?_, by rw [hkk]; exact hz1, by rw [hkk]; rfl⟩ rfl rfl rfl ⟨rfl, rfl, trivial⟩
        · rw [moreL, hl2e, if_pos (by omega)]
        · show l2.tail.length ≤ c2 - 1
          rw [List.length_tail]
          omega
      · have hge0 : ¬ rm < (l2.length : Int) := hge
        refine ⟨.int .u64 e1, fun β w' hs => by rw [← he1]; exact cell_bk (rr_bk (hs.get 0 rfl)) (o := 4) rfl, ?_⟩
        intro β w' hs
        refine hs.fin [1, 0] ⟨{ x.more with LA := A2, Lc := c2, es := l2 }, z1, by rw [he1]; rfl, rfl, rfl, rfl, rfl, rfl, ?_, hc2, by rw [hkk]; exact hz1, by rw [hkk]; rfl⟩ rfl rfl rfl ⟨rfl, rfl, trivial⟩
        rw [moreL, hl2e, if_neg (by omega)]
    · intro b2
      refine ⟨subPerm [4], ?_⟩
      refine ⟨1, 0, x.es.length, [], x.es.map (Value.int .u64), x.es.map (Value.int .u64), rfl, fun β w' hs => rr_es (x := x.more) (hs.get 4 rfl), hone, Nat.zero_add _, rfl, by omega, by show x.es.length * 8 ≤ _; omega, ?_⟩
      intro A1 c1 p1 p2 p3
      refine ⟨subPerm [4], ?_⟩
      refine ⟨1, x.es.length, l2.length, x.es.map (Value.int .u64), [.int .u64 e1], l2.map (Value.int .u64), rfl, fun β w' hs => row_rd (hs.get 0 rfl), one_mem rfl, hl2.symm, hv2, by omega, by show l2.length * 8 ≤ _; omega, ?_⟩
      intro A2 c2 hc2 p5 p6
      refine ⟨subPerm [4], ?_⟩
      refine ⟨subPerm [4], ?_⟩
      refine ⟨[rrF { x.more with LA := A2, Lc := c2, es := l2 }, rbxF x.bx kB z1, oddF 8], fun β w' hs => (hs.perm [4, 1, 3, 5]).setL, ?_⟩
      refine draw_rule g p_ostiaryref17_Rotate_4 (by kernel_rfl) [] [rrF { x.more with LA := A2, Lc := c2, es := l2 }] (subPerm [0]) ?_
      refine ⟨.slice A2 l2.length c2, fun β w' hs => cell_bk (rr_bk (hs.get 0 rfl)) (o := 3) rfl, ?_⟩
      refine ⟨.int .i64 rm, fun β w' hs => by rw [← hrm]; exact cell_bk (rr_bk (hs.get 0 rfl)) (o := 2) rfl, ?_⟩
      refine BIf.dec (fun hlt => ?_) (fun hge => ?_)
      · have hlt0 : rm < (l2.length : Int) := hlt
        refine ⟨.slice A2 l2.length c2, fun β w' hs => cell_bk (rr_bk (hs.get 0 rfl)) (o := 3) rfl, ?_⟩
        refine ⟨c2, l2.length, 1, l2.length - 1, c2 - 1, _, rfl, rfl, rfl, Nat.le_refl _, hc2, by omega, rfl, rfl, rfl, ?_⟩
        refine ⟨_, fun β w' hs => hs.cutL hc2 (by show 0 < l2.length; omega), ?_⟩
        refine ⟨.int .u64 e1, fun β w' hs => by rw [← he1]; exact cell_bk (rr_bk (hs.get 0 rfl)) (o := 4) rfl, ?_⟩
        intro β w' hs
        refine hs.fin [1, 0] ⟨{ x.more with LA := cutA A2 c2 1 1, Lc := c2 - 1, es := l2.tail }, z1, by rw [he1]; rfl, rfl, rfl, rfl, rfl, rfl, ?_, ?_, by rw [hkk]; exact hz1, by rw [hkk]; rfl⟩ rfl rfl rfl ⟨rfl, rfl, trivial⟩
        · rw [moreL, hl2e, if_pos (by omega)]
        · show l2.tail.length ≤ c2 - 1
          rw [List.length_tail]
          omega
      · have hge0 : ¬ rm < (l2.length : Int) := hge
        refine ⟨.int .u64 e1, fun β w' hs => by rw [← he1]; exact cell_bk (rr_bk (hs.get 0 rfl)) (o := 4) rfl, ?_⟩
        intro β w' hs
        refine hs.fin [1, 0] ⟨{ x.more with LA := A2, Lc := c2, es := l2 }, z1, by rw [he1]; rfl, rfl, rfl, rfl, rfl, rfl, ?_, hc2, by rw [hkk]; exact hz1, by rw [hkk]; rfl⟩ rfl rfl rfl ⟨rfl, rfl, trivial⟩
        rw [moreL, hl2e, if_neg (by omega)]
  · intro b2
    refine ⟨subPerm [3], ?_⟩
    intro b1
    refine ⟨subPerm [4], ?_⟩
    refine ⟨0, 0, x.es.length, [], x.es.map (Value.int .u64), x.es.map (Value.int .u64), rfl, fun β w' hs => rr_es (x := x.more) (hs.get 4 rfl), hone, Nat.zero_add _, rfl, by omega, by show x.es.length * 8 ≤ _; omega, ?_⟩
    intro A1 c1 p1 p2 p3
    refine ⟨subPerm [4], ?_⟩
    refine ⟨0, x.es.length, l2.length, x.es.map (Value.int .u64), [.int .u64 e1], l2.map (Value.int .u64), rfl, fun β w' hs => row_rd (hs.get 1 rfl), one_mem rfl, hl2.symm, hv2, by omega, by show l2.length * 8 ≤ _; omega, ?_⟩
    intro A2 c2 hc2 p5 p6
    refine ⟨subPerm [4], ?_⟩
    refine ⟨subPerm [4], ?_⟩
    refine ⟨[rrF { x.more with LA := A2, Lc := c2, es := l2 }, rbxF x.bx kB z1, oddF 8], fun β w' hs => (hs.perm [4, 0, 3, 5]).setL, ?_⟩
    refine draw_rule g p_ostiaryref17_Rotate_4 (by kernel_rfl) [] [rrF { x.more with LA := A2, Lc := c2, es := l2 }] (subPerm [0]) ?_
    refine ⟨.slice A2 l2.length c2, fun β w' hs => cell_bk (rr_bk (hs.get 0 rfl)) (o := 3) rfl, ?_⟩
    refine ⟨.int .i64 rm, fun β w' hs => by rw [← hrm]; exact cell_bk (rr_bk (hs.get 0 rfl)) (o := 2) rfl, ?_⟩
    refine BIf.dec (fun hlt => ?_) (fun hge => ?_)
    · have hlt0 : rm < (l2.length : Int) := hlt
      refine ⟨.slice A2 l2.length c2, fun β w' hs => cell_bk (rr_bk (hs.get 0 rfl)) (o := 3) rfl, ?_⟩
      refine ⟨c2, l2.length, 1, l2.length - 1, c2 - 1, _, rfl, rfl, rfl, Nat.le_refl _, hc2, by omega, rfl, rfl, rfl, ?_⟩
      refine ⟨_, fun β w' hs => hs.cutL hc2 (by show 0 < l2.length; omega), ?_⟩
      refine ⟨.int .u64 e1, fun β w' hs => by rw [← he1]; exact cell_bk (rr_bk (hs.get 0 rfl)) (o := 4) rfl, ?_⟩
      intro β w' hs
      refine hs.fin [1, 0] ⟨{ x.more with LA := cutA A2 c2 1 1, Lc := c2 - 1, es := l2.tail }, z1, by rw [he1]; rfl, rfl, rfl, rfl, rfl, rfl, ?_, ?_, by rw [hkk]; exact hz1, by rw [hkk]; rfl⟩ rfl rfl rfl ⟨rfl, rfl, trivial⟩
      · rw [moreL, hl2e, if_pos (by omega)]
      · show l2.tail.length ≤ c2 - 1
        rw [List.length_tail]
        omega
    · have hge0 : ¬ rm < (l2.length : Int) := hge
      refine ⟨.int .u64 e1, fun β w' hs => by rw [← he1]; exact cell_bk (rr_bk (hs.get 0 rfl)) (o := 4) rfl, ?_⟩
      intro β w' hs
      refine hs.fin [1, 0] ⟨{ x.more with LA := A2, Lc := c2, es := l2 }, z1, by rw [he1]; rfl, rfl, rfl, rfl, rfl, rfl, ?_, hc2, by rw [hkk]; exact hz1, by rw [hkk]; rfl⟩ rfl rfl rfl ⟨rfl, rfl, trivial⟩
      rw [moreL, hl2e, if_neg (by omega)]
end Go.Proofs.YtjlpcjpeljlbeaaGreatDoor.Sx

/- The document's ring: a key that goes; a new ring. -/
namespace Go.Proofs.YtjlpcjpeljlbeaaGreatDoor.Sx
open Go
attribute [local irreducible] Calls

def rretOut (x : RR) (e : Int) (v : Value) (Fs : List Fact) : Prop :=
  if e ∈ x.es then ∃ x' : RR, v = .int .i64 0 ∧ x'.b = x.b ∧ x'.bx = x.bx ∧ x'.master = x.master ∧ x'.room = x.room ∧ x'.epoch = x.epoch ∧ x'.es = x.es.filter (fun y => !decide (y = e)) ∧ x'.es.length ≤ x'.Lc ∧ Fs = [rrF x']
  else v = .int .i64 15 ∧ Fs = [rrF x]
structure RetJ where
  i : Nat
  A : Option Addr
  c : Nat
theorem rRet_c (w : World) (x : RR) (e : Int) (hn : x.es.length ≤ 1000) (hm : Mem w [rrF x]) : Con Tryz.prog n_ostiaryref17_Retire #[ptrR x.b, .int .u64 e] w [rrF x] (rretOut x e) := by
  have g := good_ostiaryref17_Retire w (Un [rrF x])
  have hml := maxLen_eq
  have hs0 : Sat (cx_ostiaryref17_Retire w (Un [rrF x])) Va.z 0 [] [rrF x] w := hm.sat0 rfl (fun f hf _ k hk => ⟨f, hf, hk⟩)
  refine con_of_sx (cx := cx_ostiaryref17_Retire w (Un [rrF x])) g b_ostiaryref17_Retire rfl rfl (β := Va.z) [.c (.v (ptrR x.b)), .c (.v (.int .u64 e))] 0 [] _ rfl rfl hs0 ?_
  obtain ⟨b, hb⟩ : ∃ b, decide (e ∈ x.es) = b := ⟨_, rfl⟩
  refine call_pu (v := .bool b) (fun β w' hs => by rw [← hb]; exact rhas_c w' x e hn (hs.get 0 rfl) (hs.getLt 0 rfl)) ?_
  cases b with
  | false =>
    have hno := of_decide_eq_false hb
    intro β w' hs
    exact hs.fin [0] (by unfold rretOut; rw [if_neg hno]; exact ⟨rfl, rfl⟩)
  | true =>
    have hin := of_decide_eq_true hb
    refine ⟨.slice x.LA x.es.length x.Lc, fun β w' hs => cell_bk (rr_bk (hs.get 0 rfl)) (o := 3) rfl, ?_⟩
    obtain ⟨out, hout⟩ : ∃ out : Nat → List Int, ∀ i, out i = (x.es.take i).filter (fun y => !decide (y = e)) := ⟨fun i => _, fun i => rfl⟩
    have hol : ∀ i, (out i).length ≤ 1000 := fun i => by
      rw [hout]
      exact Nat.le_trans (List.length_filter_le _ _) (by rw [List.length_take]; omega)
    have h00 : out 0 = [] := by rw [hout]; rfl
    refine loop_rule (ι := RetJ) 0 (fun j => [(0, .c (.v (ptrR x.b))), (1, .c (.v (.int .u64 e))), (5, .c (.v (.slice j.A (out j.i).length j.c))), (15, .c (.v (.slice x.LA x.es.length x.Lc))), (16, .c (.v (.int .i64 (x.es.length : Int)))), (17, .c (.v (.int .i64 (j.i : Int))))]) (fun _ => []) (fun j => [urowF j.A (out j.i) j.c, rrF x])
      (fun j => j.i ≤ x.es.length ∧ (out j.i).length ≤ j.c) (fun j => x.es.length - j.i) ⟨0, none, 0⟩ ⟨Nat.zero_le _, by rw [h00]; exact Nat.le_refl _⟩ (Ent.mk' ⟨rfl, rfl, by show some (SV.c (.v (.slice none 0 0))) = some (SV.c (.v (.slice none (out 0).length 0))); rw [h00]; rfl, rfl, rfl, rfl, trivial⟩ rfl (fun β w' hs => by
        have h := hs.nilRow ty_uint64 1
        simp only [h00]
        exact h)) g ?_
    rintro ⟨i, A, c⟩ ⟨hi, hc⟩
    simp only at hi hc
    refine BIf.dec (fun hlt => ?_) (fun hge => ?_)
    · have hlt0 : (i : Int) < x.es.length := hlt
      have hil : i < x.es.length := by omega
      obtain ⟨y, hy, hym⟩ := at_lt hil
      have h0 := rr_es (hm.fact (rrF x) (by simp))
      obtain ⟨ad, hA, _⟩ := h0.2 (by omega)
      refine ⟨ad, i, hA, rfl, hil, .int .u64 y, fun β w' hs => Rd.cell1 (by have h := rr_es (hs.get 1 rfl); rw [hA] at h; exact h) (by rw [List.getElem?_map, hy]; rfl), ?_⟩
      have hnx : out (i + 1) = out i ++ (if y = e then [] else [y]) := by
        rw [hout, hout, List.take_add_one, hy, List.filter_append]
        by_cases q : y = e <;> simp [q]
      refine BIf.not (BIf.dec (fun heq => ?_) (fun hne => ?_))
      · have heq0 : y = e := heq
        rw [if_pos heq0, List.append_nil] at hnx
        refine ⟨((i + 1 : Nat) : Int), by rw [wrap_i64 (by omega) (by omega)]; rfl, ?_⟩
        refine ⟨⟨i + 1, A, c⟩, ⟨hil, by show (out (i + 1)).length ≤ c; rw [hnx]; exact hc⟩, by show x.es.length - (i + 1) < x.es.length - i; omega, ?_⟩
        simp only [hnx]
        exact Ent.same ⟨rfl, rfl, rfl, rfl, rfl, rfl, trivial⟩ rfl
      · have hne0 : ¬ y = e := hne
        rw [if_neg hne0] at hnx
        have hl1 : (out (i + 1)).length = (out i).length + 1 := by rw [hnx, List.length_append]; rfl
        have hol1 := hol (i + 1)
        intro b2
        refine ⟨1, (out i).length, (out (i + 1)).length, (out i).map (Value.int .u64), [.int .u64 y], (out (i + 1)).map (Value.int .u64), rfl, fun β w hs => row_rd (hs.get 0 rfl), one_mem rfl, by rw [hl1], by rw [hnx, List.map_append]; rfl, by omega, by show (out (i + 1)).length * 8 ≤ _; omega, ?_⟩
        intro A' c' q1 q2 q3
        refine ⟨((i + 1 : Nat) : Int), by rw [wrap_i64 (by omega) (by omega)]; rfl, ?_⟩
        exact ⟨⟨i + 1, A', c'⟩, ⟨hil, q1⟩, by show x.es.length - (i + 1) < x.es.length - i; omega, Ent.mk' ⟨rfl, rfl, rfl, rfl, rfl, rfl, trivial⟩ rfl (fun β w' hs => (hs.perm [1, 2]).lower)⟩
    · have hge0 : ¬ (i : Int) < x.es.length := hge
      have hfin : out i = x.es.filter (fun y => !decide (y = e)) := by rw [hout, List.take_of_length_le (by omega)]
      refine ⟨[rrF { x with LA := A, Lc := c, es := out i }, noO, noO], fun β w' hs => (((hs.noMem noO trivial (fun _ h => h)).noMem noO trivial (fun _ h => h)).perm [3, 2, 0, 1]).setL, ?_⟩
      intro β w' hs
      exact hs.fin [0] (by unfold rretOut; rw [if_pos hin]; exact ⟨{ x with LA := A, Lc := c, es := out i }, rfl, rfl, rfl, rfl, rfl, rfl, hfin, hc, rfl⟩)
def rightR (n : Nat) (room : Int) : Bool := decide (1 ≤ n) && (decide (n ≤ 64) && (decide (1 ≤ room) && decide (room ≤ 8)))
theorem rRight_c (w : World) (A : Option Addr) (n c : Nat) (room : Int) : Pu Tryz.prog n_ostiaryref17_Right #[.slice A n c, .int .i64 room] w (.bool (rightR n room)) := by
  refine con_of_sx (cx := cx_ostiaryref17_Right w (Un [])) (good_ostiaryref17_Right w (Un [])) b_ostiaryref17_Right rfl rfl (β := Va.z) [.c (.v (.slice A n c)), .c (.v (.int .i64 room))] 0 [] [] rfl rfl (Sat.start rfl) ?_
  obtain ⟨b, hb⟩ : ∃ b, rightR n room = b := ⟨_, rfl⟩
  rw [hb]
  refine BIf.dec (fun h1 => ?_) (fun h1 => ?_)
  · have h10 : (1 : Int) ≤ (n : Int) := h1
    refine BIf.dec (fun h2 => ?_) (fun h2 => ?_)
    · have h20 : (n : Int) ≤ 64 := h2
      refine BIf.dec (fun h3 => ?_) (fun h3 => ?_)
      · have h30 : (1 : Int) ≤ room := h3
        obtain ⟨d, hd⟩ : ∃ d, decide (room ≤ 8) = d := ⟨_, rfl⟩
        have e : b = d := by rw [← hb, ← hd]; unfold rightR; rw [decide_eq_true (by omega), decide_eq_true (by omega), decide_eq_true h30]; rfl
        intro β w' hs
        refine hs.fin [] ⟨?_, rfl⟩
        rw [e, ← hd]
        rfl
      · have h30 : ¬ (1 : Int) ≤ room := h3
        have e : b = false := by rw [← hb]; unfold rightR; rw [decide_eq_false h30]; simp
        rw [e]
        intro β w' hs
        exact hs.fin [] ⟨rfl, rfl⟩
    · have h20 : ¬ (n : Int) ≤ 64 := h2
      have e : b = false := by rw [← hb]; unfold rightR; rw [decide_eq_false (p := n ≤ 64) (by omega)]; simp
      rw [e]
      intro β w' hs
      exact hs.fin [] ⟨rfl, rfl⟩
  · have h10 : ¬ (1 : Int) ≤ (n : Int) := h1
    have e : b = false := by rw [← hb]; unfold rightR; rw [decide_eq_false (p := 1 ≤ n) (by omega)]; simp
    rw [e]
    intro β w' hs
    exact hs.fin [] ⟨rfl, rfl⟩
def rr0 (b bx : Nat) (mA : Option Addr) (mc : Nat) (master : List UInt8) (room : Nat) : RR := ⟨b, bx, mA, mc, master, room, none, 0, [], 0⟩
theorem rNew_c (w : World) (bx : Nat) (B : Bx.Box) (z : Lay) (M : Option Addr) (master : List UInt8) (cM room : Nat) (hma : master.length ≤ 64) (hts : z.ts.map (·.1) = B.L) (hi : BInv B) (hL : B.L.length < 4096) (hm : Mem w [rbxF bx B z, bsF M master, oddF 8]) :
    Con Tryz.prog n_ostiaryref17_New #[ptrB bx, .slice M master.length cM, .int .i64 (room : Int)] w [rbxF bx B z] fun v Fs => ∃ (x : RR) (z' : Lay), v = ptrR x.b ∧ x.bx = bx ∧ x.master = master ∧ x.room = room ∧ x.epoch = 1 ∧ x.es = moreL [] 1 room ∧ x.es.length ≤ x.Lc ∧ z'.ts.map (·.1) = (macB B master (keyT 1).data.toList).2.L ∧
      Fs = [rbxF bx (macB B master (keyT 1).data.toList).2 z', rrF x] := by
  have g := good_ostiaryref17_New w (Un [rbxF bx B z])
  have hs0 : Sat (cx_ostiaryref17_New w (Un [rbxF bx B z])) Va.z 0 [] [rbxF bx B z, bsF M master, oddF 8] w := hm.sat0 rfl (ownIn (Gs := [rbxF bx B z]) (fun f hf => by
    simp only [List.mem_cons, List.not_mem_nil, or_false] at hf
    rcases hf with rfl | rfl <;> rfl))
  obtain ⟨rm, hrm⟩ : ∃ rm : Int, (room : Int) = rm := ⟨_, rfl⟩
  rw [hrm]
  refine con_of_tri (cx := cx_ostiaryref17_New w (Un [rbxF bx B z])) g b_ostiaryref17_New rfl rfl (β := Va.z) [.c (.v (ptrB bx)), .c (.v (.slice M master.length cM)), .c (.v (.int .i64 rm))] 0 [] _ rfl rfl hs0 ?_
  refine tri_seq g ?_
  refine tri_seq g ?_
  refine call_con [] (fun β w' hs => copyC w' M master cM (hs.get 1 rfl) (by rw [lim_eq]; omega)) ?_
  rintro v Fs ⟨mA, mc, rfl, q1, q2, rfl⟩
  refine reify_tri 0 (fun _ => [.pointer (some ⟨bx, 0, none⟩), .slice mA master.length mc, .int .i64 rm, .slice none 0 0, .int .u64 0]) rfl rfl (fun _ => rfl) (fun rb => ?_)
  refine tri_sat (F' := [rrF (rr0 rb bx mA mc master room), rbxF bx B z, oddF 8]) (fun β w' hs => by
    have h1 := hs.noMem (rdoF 1 none 0 []) (rd_nil w' none) (fun k hk => by obtain ⟨h, _⟩ := hk; exact absurd h (by decide))
    have h2 := h1.sep [1, 2, 0] rfl ⟨rfl, rfl, rfl, trivial⟩
    have e : rrF (rr0 rb bx mA mc master room) = sepF [bkF rb ty_ostiaryref17_Ring [.pointer (some ⟨bx, 0, none⟩), .slice mA master.length mc, .int .i64 rm, .slice none 0 0, .int .u64 0], browF ty_uint8 mA master mc, rdoF 1 none 0 []] := by
      rw [← hrm]
      rfl
    rw [e]
    exact h2.perm [0, 1, 3]) ?_
  refine tri_seq g ?_
  refine call_con [1, 0] (R := rotOut (rr0 rb bx mA mc master room) B) (fun β w' hs => rRot_c w' (rr0 rb bx mA mc master room) B z (by show 0 < 98; decide) (by show 0 ≤ 1000; decide) hma hts hi hL (hs.mem.take (js := [1, 0, 2]) rfl)) ?_
  rintro v Fs ⟨x', z', rfl, h1, h2, h3, h4, h5, h6, h7, h8, rfl⟩
  refine tri_of g ?_
  intro β w' hs
  exact (hs.keepB (List.nil_sublist _)).fin [0, 1] ⟨x', z', by rw [h1]; rfl, h2, h3, h4, h5, h6, h7, h8, rfl⟩ rfl rfl rfl ⟨rfl, rfl, trivial⟩
end Go.Proofs.YtjlpcjpeljlbeaaGreatDoor.Sx

/- The program's ring and the document's, plainly: that they are one stays so. -/
namespace Go.Proofs.YtjlpcjpeljlbeaaGreatDoor.Sx
open Go
attribute [local irreducible] Calls

/-- Both rings are one. -/
structure RI (r : Rg) (x : RR) (B : Bx.Box) (n : Nat) : Prop where
  ok : RgOk r
  rm : 1 ≤ r.room
  m : x.master = r.master
  room : x.room = r.room
  ep : x.epoch = r.epoch
  es : x.es = r.es
  lc : x.es.length ≤ x.Lc
  inv : BInv B
  len : B.L.length ≤ n
  epn : r.epoch ≤ n
  keys : ∀ k ∈ r.ks, k.p.length = 32 ∧ macB B r.master (keyT k.e).data.toList = (k.p, B)
theorem RI.p {r : Rg} {x : RR} {B : Bx.Box} {n : Nat} (h : RI r x B n) : ∀ q ∈ r.ks, q.p.length ≤ 1000 := fun q hq => by rw [(h.keys q hq).1]; decide
theorem RI.esl {r : Rg} {x : RR} {B : Bx.Box} {n : Nat} (h : RI r x B n) : x.es.length ≤ 1000 := by
  rw [h.es]
  have h1 := h.ok.len
  have h2 := h.ok.room
  show (r.ks.map _).length ≤ 1000
  rw [List.length_map]
  omega
theorem RI.ma {r : Rg} {x : RR} {B : Bx.Box} {n : Nat} (h : RI r x B n) : x.master.length ≤ 64 := by rw [h.m]; exact h.ok.master
theorem RI.rky {r : Rg} {x : RR} {B : Bx.Box} {n : Nat} (h : RI r x B n) (e : Int) : RKy x B e ((r.key e).map (·.p)) := by
  cases hk : r.key e with
  | none =>
    show e ∉ x.es
    rw [h.es]
    intro q
    obtain ⟨k, hk1, hk2⟩ := List.mem_map.1 q
    have := List.find?_eq_none.1 hk k hk1
    simp at this
    exact this hk2
  | some k =>
    have hm : k ∈ r.ks := List.mem_of_find?_eq_some hk
    have he := List.find?_some hk
    simp only [decide_eq_true_eq] at he
    obtain ⟨k1, k2⟩ := h.keys k hm
    refine ⟨by rw [h.es]; exact List.mem_map.2 ⟨k, hm, he⟩, k1, k.e, he.symm, ?_, by rw [h.m]; exact k2⟩
    have h1 := h.ok.le k hm
    have h2 := h.ok.ep
    omega
theorem RI.grow {r : Rg} {x : RR} {B B' : Bx.Box} {n n' : Nat} (h : RI r x B n) (hL : B.L.length < 4000) (hp : Pre B B') (hi : BInv B') (hl : B'.L.length ≤ n') (hn : n ≤ n') : RI r x B' n' :=
  ⟨h.ok, h.rm, h.m, h.room, h.ep, h.es, h.lc, hi, hl, Nat.le_trans h.epn hn, fun k hk => by
    obtain ⟨k1, k2⟩ := h.keys k hk
    have := mac_again (B := B) (B' := B') (by omega) r.master (keyT k.e).data.toList (by rw [k2]; exact hp)
    rw [k2] at this
    exact ⟨k1, this⟩⟩
theorem cut_es (r : Rg) : r.cut.es = if r.room < r.es.length then r.es.tail else r.es := by
  unfold Rg.cut Rg.es
  rw [List.length_map]
  split
  · simp [List.map_tail]
  · rfl
theorem RI.rot {r : Rg} {x x' : RR} {B : Bx.Box} {n : Nat} (h : RI r x B n) (hn : n < 90) (A : Option Addr) (c : Nat) (h3 : x'.master = x.master) (h4 : x'.room = x.room) (h5 : x'.epoch = x.epoch + 1) (h6 : x'.es = moreL x.es ((x.epoch + 1 : Nat) : Int) x.room) (h7 : x'.es.length ≤ x'.Lc) :
    RI (r.more A c (macB B r.master (keyT (r.epoch + 1)).data.toList).1).cut x' (macB B r.master (keyT (r.epoch + 1)).data.toList).2 (n + 1) := by
  have hl := h.len
  have hep := h.epn
  have hma := h.ok.master
  have hg := mac_good h.inv (by omega) (k := r.master) (t := (keyT (r.epoch + 1)).data.toList) (by omega) (Nat.le_trans (keyT_len (by omega)) (by decide))
  have hp := mac_pre (B := B) (by omega) r.master (keyT (r.epoch + 1)).data.toList
  have hag := mac_again (B := B) (B' := (macB B r.master (keyT (r.epoch + 1)).data.toList).2) (by omega) r.master (keyT (r.epoch + 1)).data.toList (Pre.refl _)
  have hgl := hg.1.len
  have hg2 := h.grow (by omega) hp hg.1.inv (by omega) (Nat.le_succ n)
  generalize macB B r.master (keyT (r.epoch + 1)).data.toList = q at *
  refine ⟨more_ok h.ok (by omega), by rw [cut_room]; exact h.rm, by rw [h3, cut_master]; exact h.m, by rw [h4, cut_room]; exact h.room, by rw [h5, cut_epoch, h.ep]; rfl, ?_, h7, hg.1.inv, by omega, by rw [cut_epoch]; show r.epoch + 1 ≤ n + 1; omega, ?_⟩
  · rw [h6, cut_es, h.es, h.ep, h.room]
    have e : (r.more A c q.1).es = r.es ++ [((r.epoch + 1 : Nat) : Int)] := by show (r.ks ++ [_]).map _ = _; rw [List.map_append]; rfl
    rw [e]
    rfl
  · intro k hk
    rw [cut_master]
    rcases List.mem_append.1 (show k ∈ r.ks ++ [(⟨r.epoch + 1, A, c, q.1⟩ : RKey)] from cut_mem hk) with hk | hk
    · exact hg2.keys k hk
    · obtain rfl := List.mem_singleton.1 hk
      exact ⟨hg.2.1, hag⟩
theorem erase_es (e : Int) : ∀ ks : List RKey, (ks.map (·.e)).Pairwise (· < ·) → (ks.eraseP fun k => decide ((k.e : Int) = e)).map (fun k => (k.e : Int)) = (ks.map fun k => (k.e : Int)).filter (fun y => !decide (y = e))
  | [], _ => rfl
  | k :: t, h => by
    rw [List.map_cons, List.pairwise_cons] at h
    by_cases hk : (k.e : Int) = e
    · rw [List.eraseP_cons_of_pos (by simpa using hk), List.map_cons, List.filter_cons_of_neg (by simpa using hk)]
      symm
      refine List.filter_eq_self.2 fun y hy => ?_
      obtain ⟨q, hq, rfl⟩ := List.mem_map.1 hy
      have := h.1 q.e (List.mem_map.2 ⟨q, hq, rfl⟩)
      simp
      omega
    · rw [List.eraseP_cons_of_neg (by simpa using hk), List.map_cons, List.map_cons, List.filter_cons_of_pos (by simpa using hk), erase_es e t h.2]
theorem RI.ret {r : Rg} {x x' : RR} {B : Bx.Box} {n : Nat} (h : RI r x B n) (e : Int) (h3 : x'.master = x.master) (h4 : x'.room = x.room) (h5 : x'.epoch = x.epoch) (h6 : x'.es = x.es.filter (fun y => !decide (y = e))) (h7 : x'.es.length ≤ x'.Lc) : RI (r.drop e) x' B n := by
  have hsub : ((r.drop e).ks).Sublist r.ks := List.eraseP_sublist
  refine ⟨⟨h.ok.rise.sublist (hsub.map _), fun k hk => h.ok.le k (drop_sub hk), Nat.le_trans hsub.length_le h.ok.len, h.ok.room, h.ok.master, h.ok.ep⟩, h.rm, h3.trans h.m, h4.trans h.room, h5.trans h.ep, ?_, h7, h.inv, h.len, h.epn, fun k hk => h.keys k (drop_sub hk)⟩
  rw [h6, h.es]
  exact (erase_es e r.ks h.ok.rise).symm
theorem rise_es' {r : Rg} (hok : RgOk r) : r.rise = r.es := by
  unfold Rg.rise
  refine List.mergeSort_of_pairwise (List.pairwise_map.2 ((List.pairwise_map.1 hok.rise).imp fun {a b} q => ?_))
  simp
  omega
theorem rRetNo_c (w : World) (x : RR) (e : Int) (hn : x.es.length ≤ 1000) (hno : e ∉ x.es) (hm : Mem w [rrF x]) : Con Tryz.prog n_ostiaryref17_Retire #[ptrR x.b, .int .u64 e] w [rrF x] (fun v Fs => v = .int .i64 15 ∧ Fs = [rrF x]) :=
  (rRet_c w x e hn hm).mono fun v Fs h => by unfold rretOut at h; rw [if_neg hno] at h; exact h
theorem rRetYes_c (w : World) (x : RR) (e : Int) (hn : x.es.length ≤ 1000) (hin : e ∈ x.es) (hm : Mem w [rrF x]) : Con Tryz.prog n_ostiaryref17_Retire #[ptrR x.b, .int .u64 e] w [rrF x] (fun v Fs => ∃ x' : RR, v = .int .i64 0 ∧ x'.b = x.b ∧ x'.bx = x.bx ∧ x'.master = x.master ∧ x'.room = x.room ∧ x'.epoch = x.epoch ∧ x'.es = x.es.filter (fun y => !decide (y = e)) ∧ x'.es.length ≤ x'.Lc ∧ Fs = [rrF x']) :=
  (rRet_c w x e hn hm).mono fun v Fs h => by unfold rretOut at h; rw [if_pos hin] at h; exact h
/-- Behind the first key. -/
theorem RI.first {b bx : Nat} {mA : Option Addr} {mc : Nat} {master : List UInt8} {room m : Nat} {A : Option Addr} {c : Nat} {x : RR} {B : Bx.Box} (h1 : 1 ≤ master.length) (h2 : master.length ≤ 64) (h3 : 1 ≤ room) (h4 : room ≤ 8) (hi : BInv B) (hL : B.L.length ≤ 0) (hxm : x.master = master) (hxr : x.room = room) (hxe : x.epoch = 1) (hxl : x.es = moreL [] 1 room) (hxc : x.es.length ≤ x.Lc) :
    RI ((ring0 b bx mA mc master room m).more A c (macB B master (keyT 1).data.toList).1).cut x (macB B master (keyT 1).data.toList).2 1 := by
  have h0 : RI (ring0 b bx mA mc master room m) (rr0 b bx mA mc master room) B 0 := ⟨⟨List.Pairwise.nil, fun k hk => (by cases hk), Nat.zero_le _, h4, h2, by show 0 < 98; decide⟩, h3, rfl, rfl, rfl, rfl, Nat.le_refl _, hi, hL, Nat.le_refl _, fun k hk => (by cases hk)⟩
  exact h0.rot (by decide) A c (x' := x) hxm hxr hxe hxl hxc
end Go.Proofs.YtjlpcjpeljlbeaaGreatDoor.Sx

/- Bytes flipped. -/
namespace Go.Proofs.YtjlpcjpeljlbeaaGreatDoor.Sx
open Go
attribute [local irreducible] Calls

theorem u8_bits (op : BinOp) (x y : Int) : ∃ b : UInt8, bits op .u8 x y = (b.toNat : Int) := by
  have h : ∀ z : Int, ∃ b : UInt8, IntKind.u8.wrap z = (b.toNat : Int) := fun z => by
    refine ⟨UInt8.ofNat (z % 256).toNat, ?_⟩
    rw [UInt8.toNat_ofNat', wrap_u8]
    omega
  unfold bits
  split <;> exact h _
/-- All bytes are turned in place. -/
theorem flip_c (w : World) (A : Option Addr) (l : List UInt8) (c : Nat) (hm : Mem w [browF ty_uint8 A l c]) (hn : l.length ≤ lim) :
    Con Tryz.prog n_ostiaryref01_Flip #[.slice A l.length c] w [browF ty_uint8 A l c] (fun _ Fs => ∃ l', l'.length = l.length ∧ Fs = [browF ty_uint8 A l' c]) := by
  have g := good_ostiaryref01_Flip w (Un [browF ty_uint8 A l c])
  refine con_of_sx (cx := cx_ostiaryref01_Flip w (Un [browF ty_uint8 A l c])) g b_ostiaryref01_Flip rfl rfl (β := Va.z) [.c (.v (.slice A l.length c))] 0 [] [browF ty_uint8 A l c] rfl rfl (hm.sat0 rfl (fun f hf _ k hk => ⟨f, hf, hk⟩)) ?_
  rw [lim_eq] at hn
  have hA : 0 < l.length → ∃ b, A = some ⟨b, 0, none⟩ := fun h0 => by
    rcases (hm.fact (browF ty_uint8 A l c) List.mem_cons_self).2 with ⟨_, q⟩ | ⟨g, cap, cur, hv, _⟩
    · omega
    · exact ⟨g, by injection hv⟩
  refine loop_rule (ι := List UInt8 × Nat) 0 (fun i => [(0, .c (.v (.slice A l.length c))), (4, .c (.v (.int .i64 (l.length : Int)))), (5, .c (.v (.int .i64 (i.2 : Int))))]) (fun _ => []) (fun i => [rowF ty_uint8 1 (.slice A l.length c) l.length (i.1.map byte)])
    (fun i => i.1.length = l.length ∧ i.2 ≤ l.length) (fun i => l.length - i.2) (l, 0) ⟨rfl, Nat.zero_le _⟩ (Ent.same ⟨rfl, rfl, rfl, trivial⟩ rfl) g ?_
  rintro ⟨p, i⟩ ⟨hpl, hi⟩
  simp only at hpl hi
  refine BIf.dec (fun h0 => ?_) (fun h0 => ?_)
  · have hi' : i < l.length := by omega
    obtain ⟨b, rfl⟩ := hA (by omega)
    have hip : i < p.length := by omega
    obtain ⟨y, hy⟩ := u8_bits .xor (p[i].toNat : Int) 90
    refine ⟨_, i, rfl, rfl, hi', byte p[i], fun β w hs => ?_, ?_⟩
    · have h1 : Rd 1 (some ⟨b, 0, none⟩) l.length (p.map byte) w := row_rd (hs.get 0 rfl)
      rw [← hpl] at h1
      exact Bs.cell h1 rfl hip
    refine ⟨_, hy, ?_⟩
    refine ⟨_, i, rfl, rfl, hi', ?_⟩
    refine ⟨_, fun β w hs => hs.rowSet (j := 0) (us := [byte y]) rfl (by show i * 1 + 1 ≤ l.length * 1; omega) (fun u hu => by obtain rfl := List.mem_singleton.1 hu; rfl), ?_⟩
    refine ⟨((i + 1 : Nat) : Int), by rw [wrap_i64] <;> omega, ?_⟩
    refine ⟨(p.set i y, i + 1), ⟨by simp [hpl], hi'⟩, by show l.length - (i + 1) < l.length - i; omega, ?_⟩
    have e : putAll (p.map byte) (i * 1) [byte y] = (p.set i y).map byte := by rw [putAll, putAll, putAt_eq, Nat.mul_one, List.map_set]
    show Ent _ _ _ _ (rowF _ _ _ _ (putAll (p.map byte) (i * 1) [byte y]) :: _) _ _ _ _
    rw [e]
    exact Ent.same ⟨rfl, rfl, rfl, trivial⟩ rfl
  · intro β w' hs
    exact hs.fin [0] ⟨p, hpl, by show _ = [rowF _ _ _ _ _]; rw [← hpl]; rfl⟩

end Go.Proofs.YtjlpcjpeljlbeaaGreatDoor.Sx

/- A fact of one's own, read only. -/
namespace Go.Proofs.YtjlpcjpeljlbeaaGreatDoor.Sx
open Go

def roX (f : Fact) : Fact := ⟨false, f.D, f.p, f.st⟩
theorem Sat.asRo {cx : Cx} {β : Va} {n : Nat} {H : List Bk} {F : List Fact} {w : World} (h : Sat cx β n H F w) (j : Nat) {f : Fact} (hj : nth F j = some f) (ho : f.own = true := by rfl) : Sat cx β n H (putAt F j (roX f)) w :=
  h.upd hj ho (Chg.refl _ _) (show f.p w from h.get j hj) (fun _ hk => .inl hk)
/-- What can be read of it. -/
theorem Sat.ofRo {cx : Cx} {β : Va} {n : Nat} {H : List Bk} {F : List Fact} {w : World} (h : Sat cx β n H F w) (j : Nat) {f : Fact} (hj : nth F j = some (roX f)) (g : Fact) (hgo : g.own = false) (hp : g.p w) (hD : ∀ k, g.D k → f.D k) : Sat cx β n H (g :: F) w :=
  h.sub j hj rfl g hgo hp hD
/-- A bundle's part, the rest forgotten. -/
theorem Sat.partOf {cx : Cx} {β : Va} {n : Nat} {H : List Bk} {F : List Fact} {w : World} (h : Sat cx β n H F w) (j : Nat) {Fs : List Fact} {g : Fact} (hj : nth F j = some (sepF Fs)) (hg : g ∈ Fs) : Sat cx β n H (putAt F j g) w :=
  h.upd hj rfl (Chg.refl _ _) ((h.get j hj).1 g hg) (fun _ hk => .inl ⟨g, hg, hk⟩)
theorem BIf.yes {P Q : Prop} {b : Bool} (hb : b = true) (h : P) : BIf P Q b := by subst hb; exact h
theorem BIf.no {P Q : Prop} {b : Bool} (hb : b = false) (h : Q) : BIf P Q b := by subst hb; exact h
end Go.Proofs.YtjlpcjpeljlbeaaGreatDoor.Sx

/- Same, as a value. -/
namespace Go.Proofs.YtjlpcjpeljlbeaaGreatDoor.Sx
open Go
attribute [local irreducible] Calls

theorem sameB_c (w : World) (A B : Option Addr) (l m : List UInt8) (c d : Nat) (h1 : Bs w A l) (h2 : Bs w B m) : Pu Tryz.prog n_ostiaryref01_Same #[.slice A l.length c, .slice B m.length d] w (.bool (decide (l = m))) := pu_of (same_c w A B l m c d h1 h2)
theorem sameT_c (w : World) (A B : Option Addr) (l : List UInt8) (c d : Nat) (h1 : Bs w A l) (h2 : Bs w B l) : Pu Tryz.prog n_ostiaryref01_Same #[.slice A l.length c, .slice B l.length d] w (.bool true) := by
  have h := sameB_c w A B l l c d h1 h2
  rw [decide_eq_true rfl] at h
  exact h
end Go.Proofs.YtjlpcjpeljlbeaaGreatDoor.Sx

/- The law's calls on both rings. -/
namespace Go.Proofs.YtjlpcjpeljlbeaaGreatDoor.Sx
open Go
attribute [local irreducible] Calls

/-- A sum that was made. -/
structure MadeE where
  e : Int
  S : Option Addr
  s : List UInt8
  cS : Nat
  T : Option Addr
  t : List UInt8
  cT : Nat
def MadeE.cells (m : MadeE) : List Value := [.int .u64 m.e, .slice m.S m.s.length m.cS, .slice m.T m.t.length m.cT]
def mtF (ms : List MadeE) : Fact where
  own := true
  D := fun k => ∃ m ∈ ms, (bsF m.S m.s).D k ∨ (bsF m.T m.t).D k
  p := fun w => ∀ m ∈ ms, Bs w m.S m.s ∧ Bs w m.T m.t
  st := fun w w' hs h m hm => ⟨(bsF m.S m.s).st w w' (fun k hk => hs k ⟨m, hm, .inl hk⟩) (h m hm).1, (bsF m.T m.t).st w w' (fun k hk => hs k ⟨m, hm, .inr hk⟩) (h m hm).2⟩
def mdFs (lb : Nat) (A : Option Addr) (c : Nat) (ms : List MadeE) : List Fact := [bkF lb ty_sl_ostiarylaw17_made [.slice A ms.length c], rowF ty_ostiarylaw17_made 3 (.slice A ms.length c) ms.length (ms.flatMap MadeE.cells), mtF ms]
/-- All sums that were made. -/
def mdF (lb : Nat) (A : Option Addr) (c : Nat) (ms : List MadeE) : Fact := sepF (mdFs lb A c ms)
theorem md_bk {lb : Nat} {A : Option Addr} {c : Nat} {ms : List MadeE} {w : World} (h : (mdF lb A c ms).p w) : (bkF lb ty_sl_ostiarylaw17_made [.slice A ms.length c]).p w := h.1 _ (by simp [mdFs])
theorem md_rd {lb : Nat} {A : Option Addr} {c : Nat} {ms : List MadeE} {w : World} (h : (mdF lb A c ms).p w) : Rd 3 A ms.length (ms.flatMap MadeE.cells) w := row_rd (h.1 (rowF ty_ostiarylaw17_made 3 (.slice A ms.length c) ms.length (ms.flatMap MadeE.cells)) (by simp [mdFs]))
theorem md_mt {lb : Nat} {A : Option Addr} {c : Nat} {ms : List MadeE} {w : World} (h : (mdF lb A c ms).p w) : ∀ m ∈ ms, Bs w m.S m.s ∧ Bs w m.T m.t := h.1 (mtF ms) (by simp [mdFs])
structure OpR where
  d : UInt8
  e : UInt8
  X : Option Addr
  text : List UInt8
  cX : Nat
  Y : Option Addr
  sum : List UInt8
  cY : Nat
  own : Bool
def OpR.cells (o : OpR) : List Value := [.int .u8 o.d.toNat, .int .u8 o.e.toNat, .slice o.X o.text.length o.cX, .slice o.Y o.sum.length o.cY, .bool o.own]
def OpR.sl (o : OpR) : List SL := o.cells.map SL.v
def MOk (ms : List MadeE) : Prop := ∀ m ∈ ms, m.s.length ≤ 32 ∧ m.t.length ≤ 40 ∧ m.t.length ≤ m.cT
abbrev tab3F : List Fact := [oddF 2, firstF 0, oddF 8]
abbrev rpF (b rb lb : Nat) (r : Rg) (x : RR) (B : Bx.Box) (y z : Lay) (A : Option Addr) (c : Nat) (ms : List MadeE) : List Fact := [rgF r, bxF b B y, rrF x, rbxF rb B z, mdF lb A c ms]
def rpOut (b rb lb rp xp n : Nat) (ms : List MadeE) (v : Value) (Fs : List Fact) : Prop :=
  ∃ r' x' B' y' z' A' c' ms', v = .bool true ∧ r'.b = rp ∧ r'.bx = b ∧ x'.b = xp ∧ x'.bx = rb ∧ RI r' x' B' (n + 1) ∧ y'.ts.map (·.1) = B'.L ∧ z'.ts.map (·.1) = B'.L ∧ MOk ms' ∧ ms'.length ≤ ms.length + 1 ∧ Fs = rpF b rb lb r' x' B' y' z' A' c' ms'
/-- What is to be verified. -/
structure VJ where
  e : Int
  S : Option Addr
  s : List UInt8
  cS : Nat
  T : Option Addr
  t : List UInt8
  cT : Nat
  W : List Fact
structure VJ.Ok (j : VJ) (M : Fact) : Prop where
  rd : (∀ w, (sepF (M :: j.W)).p w → Bs w j.S j.s ∧ Bs w j.T j.t) ∧ ∀ k, (bsF j.S j.s).D k ∨ (bsF j.T j.t).D k → (sepF (M :: j.W)).D k
  sl : j.s.length ≤ 1000
  tl : j.t.length ≤ 40
  tc : j.t.length ≤ j.cT
set_option maxHeartbeats 4000000 in
theorem rpdo_c (w : World) (b rb lb n : Nat) (r : Rg) (x : RR) (B : Bx.Box) (y z : Lay) (A : Option Addr) (c : Nat) (ms : List MadeE) (o : OpR) (hI : RI r x B n) (hb : r.bx = b) (hxb : x.bx = rb) (hy : y.ts.map (·.1) = B.L) (hz : z.ts.map (·.1) = B.L) (hn : n < 80) (hms : MOk ms) (hml : ms.length ≤ n) (hcX : o.text.length ≤ o.cX) (hcY : o.sum.length ≤ o.cY)
    (hm : Mem w (rpF b rb lb r x B y z A c ms ++ [bsF o.X o.text, bsF o.Y o.sum] ++ tab3F)) :
    Con Tryz.prog n_ostiarylaw17_do #[ptrR r.b, ptrR x.b, .agg o.cells.toArray, .pointer (some ⟨lb, 0, none⟩)] w (rpF b rb lb r x B y z A c ms) (rpOut b rb lb r.b x.b n ms) := by
  have g := good_ostiarylaw17_do w (Un (rpF b rb lb r x B y z A c ms))
  obtain ⟨d, e, X, text, cX, Y, sum, cY, own⟩ := o
  simp only at hcX hcY
  have hm : Mem w (rpF b rb lb r x B y z A c ms ++ [bsF X text, bsF Y sum] ++ tab3F) := hm
  have hs0 : Sat (cx_ostiarylaw17_do w (Un (rpF b rb lb r x B y z A c ms))) Va.z 0 [] (rpF b rb lb r x B y z A c ms ++ [bsF X text, bsF Y sum] ++ tab3F) w := hm.sat0 rfl (ownIn (Gs := rpF b rb lb r x B y z A c ms) (fun f hf => by
    have hf' : f ∈ [bsF X text, bsF Y sum, oddF 2, firstF 0, oddF 8] := hf
    simp only [List.mem_cons, List.not_mem_nil, or_false] at hf'
    rcases hf' with rfl | rfl | rfl | rfl | rfl <;> rfl))
  refine con_of_tri (cx := cx_ostiarylaw17_do w (Un (rpF b rb lb r x B y z A c ms))) g b_ostiarylaw17_do rfl rfl (β := Va.z) [.c (.v (ptrR r.b)), .c (.v (ptrR x.b)), .agg [.v (.int .u8 (d.toNat : Int)), .v (.int .u8 (e.toNat : Int)), .v (.slice X text.length cX), .v (.slice Y sum.length cY), .v (.bool own)], .c (.v (.pointer (some ⟨lb, 0, none⟩)))] 0 [] _ rfl rfl hs0 ?_
  refine tri_seq g ?_
  refine tri_seq g ?_
  refine call_con [] (fun β w' hs => cutC w' X text cX 40 (hs.get 5 rfl) (by assumption) (by decide)) ?_
  rintro v Fs ⟨A1, c1, rfl, q1, _, rfl⟩
  have hT : (text.take 40).length ≤ 40 := by rw [List.length_take]; omega
  generalize text.take 40 = T at hT q1 ⊢
  refine tri_seq g ?_
  refine ⟨by decide, ?_⟩
  obtain ⟨u, hu⟩ : ∃ u, T.take (T.length / 2) = u := ⟨_, rfl⟩
  obtain ⟨v, hv⟩ : ∃ v, T.drop (T.length / 2) = v := ⟨_, rfl⟩
  have huv : u ++ v = T := by rw [← hu, ← hv, List.take_append_drop]
  have hul : u.length = T.length / 2 := by rw [← hu, List.length_take]; omega
  have hvl : v.length = T.length - u.length := by rw [← huv, List.length_append]; omega
  have hul2 : u.length ≤ T.length := by omega
  refine ⟨(u.length : Int), by rw [wrap_i64 (by rw [Int.tdiv_eq_ediv_of_nonneg (by omega)]; omega) (by rw [Int.tdiv_eq_ediv_of_nonneg (by omega)]; omega), Int.tdiv_eq_ediv_of_nonneg (by omega)]; omega, ?_⟩
  refine tri_seq g ?_
  refine ⟨by decide, ?_⟩
  refine ⟨((e.toNat % 12 : Nat) : Int), Int.ofNat_tmod _ _, ?_⟩
  obtain ⟨ep, hep⟩ : ∃ ep : Int, ((e.toNat % 12 : Nat) : Int) = ep := ⟨_, rfl⟩
  rw [hep]
  refine ⟨ep, by rw [wrap_u64']; omega, ?_⟩
  refine tri_seq g ?_
  refine ⟨by decide, ?_⟩
  obtain ⟨m, hm⟩ : ∃ m : Int, ((d.toNat % 10 : Nat) : Int) = m := ⟨_, rfl⟩
  refine ⟨m, by rw [← hm]; exact Int.ofNat_tmod _ _, ?_⟩
  have hm0 : 0 ≤ m := by omega
  have hm10 : m < 10 := by omega
  clear hm
  subst hb hxb
  have hL := hI.len
  have hepn := hI.epn
  have hesl := hI.esl
  have hma := hI.ma
  have hrp := hI.p
  have hxe := hI.ep
  have hrep : r.epoch < 98 := hI.ok.ep
  have hB := hI.inv
  have hbl := hI.len
  have hmx := maxLen_eq
  refine BIf.dec (fun h0 => ?c0) (fun h0 => ?n0)
  case' c0 => refine BIf.dec (fun _ => ?d0) (fun h => absurd h0 h)
  case' n0 => refine BIf.dec (fun h1 => ?d1) (fun h1 => ?n1)
  case' c0 | d1 =>
    refine call_con [1, 2] (fun β w' hs => rotate_c w' r B y hI.ok hy hI.inv (by omega) (hs.mem.take (js := [1, 2, 8, 9]) rfl)) ?_
    rintro v Fs ⟨A2, c2, y1, rfl, hy1, rfl⟩
    refine call_con [4, 3] (R := rotOut x B) (fun β w' hs => rRot_c w' x B z (by omega) hesl hma hz hB (by omega) (hs.mem.take (js := [4, 3, 10]) rfl)) ?_
    rintro v Fs ⟨x1, z1, rfl, u1, u2, u3, u4, u5, u6, u7, hz1, rfl⟩
    rw [hxe] at hz1 ⊢
    rw [hI.m] at hz1 ⊢
    refine BIf.dec (fun _ => ?_) (fun h => absurd rfl h)
    intro β w' hs
    exact (hs.keepB (List.nil_sublist _)).fin [2, 3, 1, 0, 5] ⟨(r.more A2 c2 (macB B r.master (keyT (r.epoch + 1)).data.toList).1).cut, x1, _, y1, z1, A, c, ms, rfl, cut_b _, cut_bx _, u1, u2, hI.rot (by omega) A2 c2 u3 u4 u5 u6 u7, hy1, hz1, hms, Nat.le_succ _, rfl⟩ rfl rfl rfl ⟨rfl, rfl, rfl, rfl, rfl, trivial⟩
  refine BIf.dec (fun h2 => ?_) (fun h2 => ?_)
  · have hky := hI.rky ep
    refine call_con [1] (R := retOut r ep) (fun β w' hs => retire_c w' r ep hrp (hs.mem.take (js := [1]) rfl)) ?_
    unfold retOut
    cases hk : r.key ep with
    | none =>
      rw [hk] at hky
      have hno : ep ∉ x.es := hky
      rintro v Fs ⟨rfl, rfl⟩
      refine call_con [3] (fun β w' hs => rRetNo_c w' x ep hesl hno (hs.mem.take (js := [3]) rfl)) ?_
      rintro v Fs ⟨rfl, rfl⟩
      intro β w' hs
      exact (hs.keepB (List.nil_sublist _)).fin [1, 3, 0, 4, 5] ⟨r, x, B, y, z, A, c, ms, rfl, rfl, rfl, rfl, rfl, hI.grow (by omega) (Pre.refl _) hB (by omega) (Nat.le_succ n), hy, hz, hms, Nat.le_succ _, rfl⟩ rfl rfl rfl ⟨rfl, rfl, rfl, rfl, rfl, trivial⟩
    | some k =>
      rw [hk] at hky
      have hin : ep ∈ x.es := hky.1
      rintro v Fs ⟨rfl, rfl⟩
      refine call_con [3] (fun β w' hs => rRetYes_c w' x ep hesl hin (hs.mem.take (js := [3]) rfl)) ?_
      rintro v Fs ⟨x1, rfl, u1, u2, u3, u4, u5, u6, u7, rfl⟩
      intro β w' hs
      exact (hs.keepB (List.nil_sublist _)).fin [1, 3, 0, 4, 5] ⟨r.drop ep, x1, B, y, z, A, c, ms, rfl, rfl, rfl, u1, u2, (hI.ret ep u3 u4 u5 u6 u7).grow (by omega) (Pre.refl _) hB (by omega) (Nat.le_succ n), hy, hz, hms, Nat.le_succ _, rfl⟩ rfl rfl rfl ⟨rfl, rfl, rfl, rfl, rfl, trivial⟩
  refine BIf.dec (fun h3 => ?c3) (fun h3 => ?n3)
  case' c3 => refine BIf.dec (fun _ => ?d3) (fun h => absurd h3 h)
  case' n3 => refine BIf.dec (fun h4 => ?d4) (fun h4 => ?n4)
  case' c3 | d4 =>
    have hky := hI.rky (r.epoch : Int)
    rw [← hxe] at hky
    refine draw_rule g p_ostiarylaw17_do_13 (by kernel_rfl) [] [] (Sub.of (List.nil_sublist _) (List.nil_sublist _)) ?_
    refine ⟨c1, u.length, 0, u.length, c1, _, rfl, rfl, rfl, by omega, by omega, Nat.zero_le _, rfl, rfl, rfl, ?_⟩
    refine ⟨c1, T.length, u.length, v.length, c1 - u.length, _, rfl, rfl, rfl, by omega, by omega, by omega, hvl.symm, rfl, rfl, ?_⟩
    intro bs
    refine ⟨Sub.of (List.nil_sublist _) (List.nil_sublist _), ?_⟩
    refine call_con [2, 3] (R := signOut r B T) (fun β w' hs => by
      have h2 := (hs.rowRd 0 rfl).ro 1 rfl
      have h3 := h2.sub 1 rfl rfl (bsF (cutA A1 c1 0 1) u) rfl (Bs.cutB (h2.get 1 rfl) q1 (Nat.zero_le u.length) hul2 (by rw [List.drop_zero, Nat.sub_zero, ← huv]; exact List.take_left)) (fun k hk => cut_D hul2 hk)
      have h4 := h3.sub 2 rfl rfl (bsF (cutA A1 c1 u.length 1) v) rfl (Bs.cutB (h3.get 2 rfl) q1 hul2 (Nat.le_refl _) (by rw [← hvl, ← huv, List.drop_left]; exact List.take_length)) (fun k hk => cut_D (by omega) hk)
      have h5 := h4.part2 [2, 1, 0] rfl
      have k2 := signP_c w' r B y bs [(cutA A1 c1 0 1, u, c1), (cutA A1 c1 u.length 1, v, c1 - u.length)] 2 rfl (by simp) (by show 2 ≤ 1000; decide) hrp (by rw [two_parts, huv]; omega) hy hB (by omega) (h5.mem.take (js := [5, 6, 0, 12, 13]) rfl)
      rw [two_parts, huv] at k2
      exact k2) ?_
    unfold signOut
    cases hk : r.key (r.epoch : Int) with
    | none =>
      rw [hxe, hk] at hky
      rintro v Fs ⟨rfl, y1, hy1, rfl⟩
      refine ⟨Sub.of (List.nil_sublist _) (List.nil_sublist _), ?_⟩
      refine call_con [5, 4] (R := rsgOut x B none T) (fun β w' hs => rSign_c w' x none B z A1 T c1 (by rw [hxe]; exact hky) hesl hma (by omega) hz hB (by omega) ((hs.ro 3 rfl).mem.take (js := [5, 4, 3, 11]) rfl)) ?_
      rintro v Fs ⟨z1, rfl, hz1, rfl⟩
      refine call_pu (fun β w' hs => sameT_c w' none none [] 0 0 (Bs.nil w' none) (Bs.nil w' none)) ?_
      intro β w' hs
      exact (hs.keepB (List.nil_sublist _)).fin [3, 4, 2, 1, 7] ⟨r, x, B, y1, z1, A, c, ms, rfl, rfl, rfl, rfl, rfl, hI.grow (by omega) (Pre.refl _) hB (by omega) (Nat.le_succ n), hy1, hz1, hms, Nat.le_succ _, rfl⟩ rfl rfl rfl ⟨rfl, rfl, rfl, rfl, rfl, trivial⟩
    | some k =>
      rw [hxe, hk] at hky
      rintro v Fs ⟨A2, c2, y1, rfl, q2, hy1, rfl⟩
      refine ⟨Sub.of (List.nil_sublist _) (List.nil_sublist _), ?_⟩
      refine call_conS [6, 5] (R := rsgOut x B (some k.p) T) (fun β w' hs => rSign_c w' x (some k.p) B z A1 T c1 (by rw [hxe]; exact hky) hesl hma (by omega) hz hB (by omega) ((hs.ro 4 rfl).mem.take (js := [6, 5, 4, 12]) rfl)) ?_
      rintro v Fs ⟨A3, c3, z1, rfl, q3, hz1, rfl⟩
      refine ⟨_, _, fun β w' hs => hs.unsep 8 rfl, ?_⟩
      rw [hxe]
      have hgk := mac_good hB (by omega) (k := k.p) (t := T) (by have := hrp k (List.mem_of_find?_eq_some hk); omega) (by omega)
      have hpk := mac_pre (B := B) (by omega) k.p T
      generalize macB B k.p T = q at *
      obtain ⟨s, B2⟩ := q
      simp only at hy1 q2 hz1 q3 ⊢
      simp only at hpk
      have hgl : B2.L.length ≤ B.L.length + 1 := hgk.1.len
      refine ⟨_, fun β w' hs => cell_bk (hs.get 0 rfl) (o := 0) rfl, ?_⟩
      intro b1
      refine ⟨2, ms.length, ms.length + 1, ms.flatMap MadeE.cells, [.int .u64 (r.epoch : Int), .slice A3 s.length c3, .slice A1 T.length c1], (ms ++ [(⟨(r.epoch : Int), A3, s, c3, A1, T, c1⟩ : MadeE)]).flatMap MadeE.cells, rfl, fun β w' hs => row_rd (hs.get 0 rfl), (fun u hu => by simp at hu; rcases hu with rfl | rfl | rfl <;> rfl), rfl, by simp [MadeE.cells], by omega, by show (ms.length + 1) * 56 ≤ _; omega, ?_⟩
      intro A' c' p1 p2 p3
      refine ⟨_, fun β w' hs => hs.bkSet 1 (o := 0) (us := [.slice A' (ms.length + 1) c']) rfl (by show 1 ≤ 1; decide) (one_mem rfl), ?_⟩
      refine BIf.dec (fun _ => ?_) (fun h => absurd rfl h)
      refine call_pu (fun β w' hs => sameT_c w' A2 A3 s c2 c3 (row_rd (hs.get 7 rfl)) (row_rd (hs.get 4 rfl))) ?_
      intro β w' hs
      obtain ⟨mm, hmm⟩ : ∃ mm : MadeE, (⟨(r.epoch : Int), A3, s, c3, A1, T, c1⟩ : MadeE) = mm := ⟨_, rfl⟩
      have h1 := (hs.keepB (List.nil_sublist _)).fuse [3, 4, 11] (mtF (ms ++ [mm])) (fun w hm x hx => by
        have hm' : Mem w [mtF ms, browF ty_uint8 A3 s c3, browF ty_uint8 A1 T c1] := hm
        rcases List.mem_append.1 hx with hx | hx
        · exact hm'.fact (mtF ms) (by simp) x hx
        · obtain rfl := List.mem_singleton.1 hx
          rw [← hmm]
          exact ⟨row_rd (hm'.fact (browF ty_uint8 A3 s c3) (by simp)), row_rd (hm'.fact (browF ty_uint8 A1 T c1) (by simp))⟩) (fun k hk => by
        show Un [mtF ms, browF ty_uint8 A3 s c3, browF ty_uint8 A1 T c1] k
        obtain ⟨x, hx, hk⟩ := hk
        rcases List.mem_append.1 hx with hx | hx
        · exact ⟨mtF ms, by simp, x, hx, hk⟩
        · obtain rfl := List.mem_singleton.1 hx
          rw [← hmm] at hk
          rcases hk with hk | hk
          · exact ⟨browF ty_uint8 A3 s c3, by simp, row_D hk⟩
          · exact ⟨browF ty_uint8 A1 T c1, by simp, row_D hk⟩) rfl ⟨rfl, rfl, rfl, trivial⟩
      have h2 := h1.sep [2, 3, 0] rfl ⟨rfl, rfl, rfl, trivial⟩
      have hmd : mdF lb A' c' (ms ++ [mm]) = sepF [bkF lb ty_sl_ostiarylaw17_made [.slice A' (ms.length + 1) c'], rowF ty_ostiarylaw17_made 3 (.slice A' (ms.length + 1) c') (ms.length + 1) ((ms ++ [mm]).flatMap MadeE.cells), mtF (ms ++ [mm])] := by
        simp [mdF, mdFs]
      refine h2.fin [5, 6, 3, 2, 0] ⟨r, x, B2, y1, z1, A', c', ms ++ [mm], rfl, rfl, rfl, rfl, rfl, hI.grow (by omega) hpk hgk.1.inv (by omega) (Nat.le_succ n), hy1, hz1, ?_, by rw [List.length_append]; exact Nat.le_refl _, by show _ = [rgF r, bxF r.bx B2 y1, rrF x, rbxF x.bx B2 z1, mdF lb A' c' (ms ++ [mm])]; rw [hmd, ← hmm]; rfl⟩ rfl rfl rfl ⟨rfl, rfl, rfl, rfl, rfl, trivial⟩
      intro x hx
      rcases List.mem_append.1 hx with hx | hx
      · exact hms x hx
      · obtain rfl := List.mem_singleton.1 hx
        rw [← hmm]
        exact ⟨Nat.le_of_eq hgk.2.1, hT, q1⟩
  refine BIf.dec (fun h8 => ?_) (fun h8 => ?_)
  · have hky := hI.rky ep
    refine call_con [] (R := keyOut (r.key ep)) (fun β w' hs => key_c w' r ep (hs.get 1 rfl) (hs.getLt 1 rfl) hrp) ?_
    cases hk : r.key ep with
    | none =>
      rw [hk] at hky
      rintro v Fs ⟨rfl, rfl⟩
      refine call_con [4, 3] (fun β w' hs => rKey_c w' x ep none B z hky hesl hma hz hB (by omega) (hs.mem.take (js := [4, 3, 10]) rfl)) ?_
      rintro v Fs ⟨A3, c3, z1, rfl, q3, hz1, rfl⟩
      refine call_puS (fun β w' hs => sameT_c w' none A3 [] 0 c3 (Bs.nil w' none) (row_rd (hs.get 0 rfl))) _ _ (fun β w' hs => hs.nilRow ty_uint8 1) ?_
      refine call_con [0] (fun β w' hs => flip_c w' none [] 0 (hs.mem.take (js := [0]) rfl) (by decide)) ?_
      rintro v Fs ⟨l1, hl1, rfl⟩
      intro β w' hs
      exact (hs.keepB (List.nil_sublist _)).fin [5, 6, 3, 2, 7] ⟨r, x, B, y, z1, A, c, ms, rfl, rfl, rfl, rfl, rfl, hI.grow (by omega) (Pre.refl _) hB (by omega) (Nat.le_succ n), hy, hz1, hms, Nat.le_succ _, rfl⟩ rfl rfl rfl ⟨rfl, rfl, rfl, rfl, rfl, trivial⟩
    | some k =>
      rw [hk] at hky
      have hkl : k.p.length = 32 := hky.2.1
      rintro v Fs ⟨A2, c2, rfl, q2, rfl⟩
      refine call_con [5, 4] (fun β w' hs => rKey_c w' x ep (some k.p) B z hky hesl hma hz hB (by omega) (hs.mem.take (js := [5, 4, 11]) rfl)) ?_
      rintro v Fs ⟨A3, c3, z1, rfl, q3, hz1, rfl⟩
      refine call_pu (fun β w' hs => sameT_c w' A2 A3 k.p c2 c3 (row_rd (hs.get 3 rfl)) (row_rd (hs.get 0 rfl))) ?_
      refine BIf.yes (by show (decide ((0 : Int) = 0) == decide (0 < (k.p.length : Int))) = true; rw [hkl]; rfl) ?_
      refine call_con [3] (fun β w' hs => flip_c w' A2 k.p c2 (hs.mem.take (js := [3]) rfl) (by rw [lim_eq]; omega)) ?_
      rintro v Fs ⟨l1, hl1, rfl⟩
      intro β w' hs
      exact (hs.keepB (List.nil_sublist _)).fin [5, 6, 3, 2, 7] ⟨r, x, B, y, z1, A, c, ms, rfl, rfl, rfl, rfl, rfl, hI.grow (by omega) (Pre.refl _) hB (by omega) (Nat.le_succ n), hy, hz1, hms, Nat.le_succ _, rfl⟩ rfl rfl rfl ⟨rfl, rfl, rfl, rfl, rfl, trivial⟩
  refine BIf.dec (fun h9 => ?_) (fun h9 => ?_)
  · have hky := hI.rky (r.epoch : Int)
    refine call_con [] (R := newestOut r) (fun β w' hs => newest_c w' r (hs.get 1 rfl) (hs.getLt 1 rfl) hrp) ?_
    unfold newestOut
    cases hk : r.key (r.epoch : Int) with
    | none =>
      rw [hk] at hky
      rintro v Fs ⟨rfl, rfl⟩
      refine ⟨.int .u64 (x.epoch : Int), fun β w' hs => cell_bk (rr_bk (hs.get 3 rfl)) (o := 4) rfl, ?_⟩
      refine call_con [4, 3] (fun β w' hs => rKey_c w' x (x.epoch : Int) none B z (by rw [hxe]; exact hky) hesl hma hz hB (by omega) (hs.mem.take (js := [4, 3, 10]) rfl)) ?_
      rintro v Fs ⟨A3, c3, z1, rfl, q3, hz1, rfl⟩
      refine call_pu (fun β w' hs => sameT_c w' none A3 [] 0 c3 (Bs.nil w' none) (row_rd (hs.get 0 rfl))) ?_
      intro β w' hs
      exact (hs.keepB (List.nil_sublist _)).fin [4, 5, 2, 1, 6] ⟨r, x, B, y, z1, A, c, ms, rfl, rfl, rfl, rfl, rfl, hI.grow (by omega) (Pre.refl _) hB (by omega) (Nat.le_succ n), hy, hz1, hms, Nat.le_succ _, rfl⟩ rfl rfl rfl ⟨rfl, rfl, rfl, rfl, rfl, trivial⟩
    | some k =>
      rw [hk] at hky
      have hkl : k.p.length = 32 := hky.2.1
      rintro v Fs ⟨A2, c2, rfl, q2, rfl⟩
      refine ⟨.int .u64 (x.epoch : Int), fun β w' hs => cell_bk (rr_bk (hs.get 4 rfl)) (o := 4) rfl, ?_⟩
      refine call_con [5, 4] (fun β w' hs => rKey_c w' x (x.epoch : Int) (some k.p) B z (by rw [hxe]; exact hky) hesl hma hz hB (by omega) (hs.mem.take (js := [5, 4, 11]) rfl)) ?_
      rintro v Fs ⟨A3, c3, z1, rfl, q3, hz1, rfl⟩
      refine call_pu (fun β w' hs => sameT_c w' A2 A3 k.p c2 c3 (row_rd (hs.get 3 rfl)) (row_rd (hs.get 0 rfl))) ?_
      refine BIf.yes (by show (true == decide (0 < (k.p.length : Int))) = true; rw [hkl]; rfl) ?_
      refine ⟨.int .u64 (x.epoch : Int), fun β w' hs => cell_bk (rr_bk (hs.get 2 rfl)) (o := 4) rfl, ?_⟩
      intro β w' hs
      exact (hs.keepB (List.nil_sublist _)).fin [5, 6, 2, 1, 7] ⟨r, x, B, y, z1, A, c, ms, by rw [hxe]; show Value.bool (decide _) = _; rw [decide_eq_true rfl], rfl, rfl, rfl, rfl, hI.grow (by omega) (Pre.refl _) hB (by omega) (Nat.le_succ n), hy, hz1, hms, Nat.le_succ _, rfl⟩ rfl rfl rfl ⟨rfl, rfl, rfl, rfl, rfl, trivial⟩
  refine tri_seq g ?_
  refine call_con [] (fun β w' hs => cutC w' Y sum cY 40 (hs.get 7 rfl) hcY (by decide)) ?_
  rintro v Fs ⟨A2, c2, rfl, q2, _, rfl⟩
  have hS : (sum.take 40).length ≤ 40 := by rw [List.length_take]; omega
  generalize sum.take 40 = S at hS q2 ⊢
  refine tri_seqJ (ι := VJ) g (fun j => j.Ok (mdF lb A c ms)) 0 (fun j => [(0, .c (.v (ptrR r.b))), (1, .c (.v (ptrR x.b))), (9, .c (.v (.slice j.T j.t.length j.cT))), (10, .c (.v (.int .i64 ((j.t.take (j.t.length / 2)).length : Int)))), (11, .c (.v (.int .u64 j.e))), (28, .c (.v (.slice j.S j.s.length j.cS)))])
    (fun _ => []) (fun j => [rgF r, bxF r.bx B y, rrF x, rbxF x.bx B z, sepF (mdF lb A c ms :: j.W)] ++ tab3F) ?_ ?_
  rotate_left
  · cases own with
    | false =>
      refine EntX.of ⟨ep, A2, S, c2, A1, T, c1, [browF ty_uint8 A1 T c1, browF ty_uint8 A2 S c2]⟩ ⟨?_, by show S.length ≤ 1000; omega, hT, q1⟩ (Ent.mk' ⟨rfl, rfl, rfl, by rw [hu]; rfl, rfl, rfl, trivial⟩ rfl (fun β w' hs => ?_))
      · exact ⟨fun w h => ⟨row_rd (h.1 (browF ty_uint8 A2 S c2) (by simp)), row_rd (h.1 (browF ty_uint8 A1 T c1) (by simp))⟩, fun k hk => by
          rcases hk with hk | hk
          · exact ⟨browF ty_uint8 A2 S c2, by simp, row_D hk⟩
          · exact ⟨browF ty_uint8 A1 T c1, by simp, row_D hk⟩⟩
      · exact (((hs.keepB (List.nil_sublist _)).sep [6, 1, 0] rfl ⟨rfl, rfl, rfl, trivial⟩).perm [1, 2, 3, 4, 0, 7, 8, 9]).lower
    | true =>
      refine ⟨.slice A ms.length c, fun β w' hs => cell_bk (md_bk (hs.get 6 rfl)) (o := 0) rfl, ?_⟩
      refine BIf.dec (fun hpos => ?_) (fun hpos => ?_)
      · have hpos0 : (0 : Int) < (ms.length : Int) := hpos
        have hkl : e.toNat % ms.length < ms.length := Nat.mod_lt _ (by omega)
        obtain ⟨mm, hmm, hmem⟩ := at_lt hkl
        obtain ⟨k1, k2, k3⟩ := hms mm hmem
        refine draw_rule g p_ostiarylaw17_do_30 (by kernel_rfl) [⟨0, ty_ostiarylaw17_Op, [.v (.int .u8 (d.toNat : Int)), .v (.int .u8 (e.toNat : Int)), .v (.slice X text.length cX), .v (.slice Y sum.length cY), .v (.bool true)]⟩] [mdF lb A c ms] (subPerm [6]) ?_
        have he256 := e.toNat_lt
        obtain ⟨ad, hA1, _⟩ := (md_rd (hm.fact (mdF lb A c ms) (by simp))).2 (by omega)
        refine ⟨_, fun β w' hs => cell_bk (md_bk (hs.get 0 rfl)) (o := 0) rfl, ?_⟩
        refine ⟨(e.toNat : Int), by rw [wrap_i64 (by omega) (by omega)], ?_⟩
        refine ⟨_, fun β w' hs => cell_bk (md_bk (hs.get 0 rfl)) (o := 0) rfl, ?_⟩
        refine ⟨by omega, ((e.toNat % ms.length : Nat) : Int), Int.ofNat_tmod _ _, ?_⟩
        refine ⟨ad, e.toNat % ms.length, hA1, rfl, hkl, ?_⟩
        refine ⟨mm.cells, rfl, fun β w' hs => ?_, ?_⟩
        · have h := md_rd (hs.get 0 rfl)
          obtain ⟨hil, hie⟩ := List.getElem?_eq_some_iff.1 hmm
          have h2 := Rd.elem (f := MadeE.cells) (fun _ => rfl) h hA1 hil
          rw [hie] at h2
          exact h2
        refine ⟨fun β w hs => (hs.keepB (List.sublist_cons_self _ _)).perm [6], ?_⟩
        refine ⟨fun β w hs => (hs.keepB (List.sublist_cons_self _ _)).perm [6], ?_⟩
        refine draw_rule g p_ostiarylaw17_do_31 (by kernel_rfl) _ [] (Sub.of (List.Sublist.refl _) (List.nil_sublist _)) ?_
        refine ⟨by decide, ((mm.t.take (mm.t.length / 2)).length : Int), by rw [wrap_i64 (by rw [Int.tdiv_eq_ediv_of_nonneg (by omega)]; omega) (by rw [Int.tdiv_eq_ediv_of_nonneg (by omega)]; omega), Int.tdiv_eq_ediv_of_nonneg (by omega), List.length_take]; omega, ?_⟩
        refine EntX.of ⟨mm.e, mm.S, mm.s, mm.cS, mm.T, mm.t, mm.cT, []⟩ ⟨⟨fun w h => md_mt (h.1 (mdF lb A c ms) (by simp)) mm hmem, fun k hk => ⟨mdF lb A c ms, by simp, mtF ms, by simp [mdFs], mm, hmem, hk⟩⟩, by show mm.s.length ≤ 1000; omega, k2, k3⟩ (Ent.mk' ⟨rfl, rfl, rfl, rfl, rfl, rfl, trivial⟩ rfl (fun β w' hs => ?_))
        exact (((hs.keepB (List.nil_sublist _)).sep [6] rfl ⟨rfl, trivial⟩).perm [3, 4, 5, 6, 0, 9, 10, 11]).lower
      · refine EntX.of ⟨ep, A2, S, c2, A1, T, c1, [browF ty_uint8 A1 T c1, browF ty_uint8 A2 S c2]⟩ ⟨?_, by show S.length ≤ 1000; omega, hT, q1⟩ (Ent.mk' ⟨rfl, rfl, rfl, by rw [hu]; rfl, rfl, rfl, trivial⟩ rfl (fun β w' hs => ?_))
        · exact ⟨fun w h => ⟨row_rd (h.1 (browF ty_uint8 A2 S c2) (by simp)), row_rd (h.1 (browF ty_uint8 A1 T c1) (by simp))⟩, fun k hk => by
            rcases hk with hk | hk
            · exact ⟨browF ty_uint8 A2 S c2, by simp, row_D hk⟩
            · exact ⟨browF ty_uint8 A1 T c1, by simp, row_D hk⟩⟩
        · exact (((hs.keepB (List.nil_sublist _)).sep [6, 1, 0] rfl ⟨rfl, rfl, rfl, trivial⟩).perm [1, 2, 3, 4, 0, 7, 8, 9]).lower
  clear hu hv huv hul hvl hul2
  rintro ⟨e1, S1, s1, cS1, T1, t1, cT1, W⟩ ⟨⟨hW, hWD⟩, hs1, ht1, hct1⟩
  simp only at hW hWD hs1 ht1 hct1
  obtain ⟨u, hu⟩ : ∃ u, t1.take (t1.length / 2) = u := ⟨_, rfl⟩
  obtain ⟨v, hv⟩ : ∃ v, t1.drop (t1.length / 2) = v := ⟨_, rfl⟩
  have huv : u ++ v = t1 := by rw [← hu, ← hv, List.take_append_drop]
  have hul : u.length = t1.length / 2 := by rw [← hu, List.length_take]; omega
  have hvl : v.length = t1.length - u.length := by rw [← huv, List.length_append]; omega
  have hul2 : u.length ≤ t1.length := by omega
  simp only [hu]
  refine tri_seq g ?_
  refine draw_rule g p_ostiarylaw17_do_33 (by kernel_rfl) [] [] (subPerm []) ?_
  refine ⟨cT1, u.length, 0, u.length, cT1, _, rfl, rfl, rfl, by omega, by omega, Nat.zero_le _, rfl, rfl, rfl, ?_⟩
  refine ⟨cT1, t1.length, u.length, v.length, cT1 - u.length, _, rfl, rfl, rfl, by omega, by omega, by omega, hvl.symm, rfl, rfl, ?_⟩
  intro bs
  refine ⟨subPerm [], ?_⟩
  refine call_con [1, 2] (R := verOut r B e1 s1 t1) (fun β w' hs => by
    have h1 := (hs.rowRd 0 rfl).asRo 5 rfl
    have h2 := h1.ofRo 5 rfl (bsF T1 t1) rfl (hW w' (hs.get 5 rfl)).2 (fun k hk => hWD k (.inr hk))
    have h3 := h2.ofRo 6 rfl (bsF S1 s1) rfl (hW w' (hs.get 5 rfl)).1 (fun k hk => hWD k (.inl hk))
    have h4 := h3.sub 1 rfl rfl (bsF (cutA T1 cT1 0 1) u) rfl (Bs.cutB (h3.get 1 rfl) hct1 (Nat.zero_le u.length) hul2 (by rw [List.drop_zero, Nat.sub_zero, ← huv]; exact List.take_left)) (fun k hk => cut_D hul2 hk)
    have h5 := h4.sub 2 rfl rfl (bsF (cutA T1 cT1 u.length 1) v) rfl (Bs.cutB (h4.get 2 rfl) hct1 hul2 (Nat.le_refl _) (by rw [← hvl, ← huv, List.drop_left]; exact List.take_length)) (fun k hk => cut_D (by omega) hk)
    have h6 := h5.part2 [4, 1, 0] rfl
    have k2 := verifyP_c w' r B y e1 S1 s1 cS1 bs [(cutA T1 cT1 0 1, u, cT1), (cutA T1 cT1 u.length 1, v, cT1 - u.length)] 2 rfl (by simp) (by show 2 ≤ 1000; decide) hrp (by rw [two_parts, huv]; omega) hy hB (by omega) (h6.mem.take (js := [6, 7, 0, 3, 11, 12]) rfl)
    rw [two_parts, huv] at k2
    exact k2) ?_
  have hky := hI.rky e1
  unfold verOut
  cases hk : r.key e1 with
  | none =>
    rw [hk] at hky
    rintro v1 Fs ⟨rfl, y1, hy1, rfl⟩
    refine ⟨subPerm [], ?_⟩
    refine call_con [4, 3] (R := rvrOut x B none s1 t1) (fun β w' hs => by
      have h1 := hs.asRo 5 rfl
      have h2 := h1.ofRo 5 rfl (bsF T1 t1) rfl (hW w' (hs.get 5 rfl)).2 (fun k hk => hWD k (.inr hk))
      have h3 := h2.ofRo 6 rfl (bsF S1 s1) rfl (hW w' (hs.get 5 rfl)).1 (fun k hk => hWD k (.inl hk))
      exact rVerify_c w' x e1 none B z S1 s1 cS1 T1 t1 cT1 hky hesl hma (by omega) hz hB (by omega) (h3.mem.take (js := [6, 5, 0, 1, 10]) rfl)) ?_
    rintro v1 Fs ⟨z1, rfl, hz1, rfl⟩
    refine ⟨subPerm [], ?_⟩
    refine tri_of g ?_
    intro β w' hs
    exact ((hs.keepB (List.nil_sublist _)).partOf 5 rfl List.mem_cons_self).fin [2, 3, 1, 0, 5] ⟨r, x, B, y1, z1, A, c, ms, rfl, rfl, rfl, rfl, rfl, hI.grow (by omega) (Pre.refl _) hB (by omega) (Nat.le_succ n), hy1, hz1, hms, Nat.le_succ _, rfl⟩ rfl rfl rfl ⟨rfl, rfl, rfl, rfl, rfl, trivial⟩
  | some k =>
    rw [hk] at hky
    have hgk := mac_good hB (by omega) (k := k.p) (t := t1) (by have := hrp k (List.mem_of_find?_eq_some hk); omega) (by omega)
    have hpk := mac_pre (B := B) (by omega) k.p t1
    rintro v1 Fs ⟨rfl, y1, hy1, rfl⟩
    refine ⟨subPerm [], ?_⟩
    refine call_con [4, 3] (R := rvrOut x B (some k.p) s1 t1) (fun β w' hs => by
      have h1 := hs.asRo 5 rfl
      have h2 := h1.ofRo 5 rfl (bsF T1 t1) rfl (hW w' (hs.get 5 rfl)).2 (fun k hk => hWD k (.inr hk))
      have h3 := h2.ofRo 6 rfl (bsF S1 s1) rfl (hW w' (hs.get 5 rfl)).1 (fun k hk => hWD k (.inl hk))
      exact rVerify_c w' x e1 (some k.p) B z S1 s1 cS1 T1 t1 cT1 hky hesl hma (by omega) hz hB (by omega) (h3.mem.take (js := [6, 5, 0, 1, 10]) rfl)) ?_
    rintro v1 Fs ⟨z1, rfl, hz1, rfl⟩
    refine ⟨subPerm [], ?_⟩
    refine tri_of g ?_
    intro β w' hs
    exact ((hs.keepB (List.nil_sublist _)).partOf 5 rfl List.mem_cons_self).fin [2, 3, 1, 0, 5] ⟨r, x, (macB B k.p t1).2, y1, z1, A, c, ms, by show Value.bool (decide _) = _; rw [decide_eq_true rfl], rfl, rfl, rfl, rfl, hI.grow (by omega) hpk hgk.1.inv (by have := hgk.1.len; omega) (Nat.le_succ n), hy1, hz1, hms, Nat.le_succ _, rfl⟩ rfl rfl rfl ⟨rfl, rfl, rfl, rfl, rfl, trivial⟩
end Go.Proofs.YtjlpcjpeljlbeaaGreatDoor.Sx

/- A ring's epochs for who collects them: the ring stays. -/
namespace Go.Proofs.YtjlpcjpeljlbeaaGreatDoor.Sx
open Go
attribute [local irreducible] Calls

theorem epK_it (n : Nat) (l : Nat) (w : World) (bx : Nat) (r : Rg) (hn : r.ks.length ≤ n) (f0 R : Fact) (J Jx : List Int → Fact → Prop) (hL : r.ks.length ≤ 12) (hJ0 : J [] f0) (hJo : ∀ pre f, J pre f → f.own = true) (hRo : R.own = false) (hY : Yc Tryz.prog l J Jx R (insK n))
    (hm : Mem w (f0 :: R :: [bkF bx ty_ptr_ring_Ring [ptrR r.b], rgF r])) :
    Con Tryz.prog n_ring_Ring_Epochs_1 #[.func (.yield l) #[] #[], .pointer (some ⟨bx, 0, none⟩)] w [f0, bkF bx ty_ptr_ring_Ring [ptrR r.b], rgF r]
      (fun _ Fs => ∃ f Fs', Fs = f :: Fs' ∧ ((∃ xs, J xs f ∧ xs = r.rise ∧ Fs' = [rgF r]) ∨ (∃ pre, Jx pre f ∧ Fs' = [rgF r]))) := by
  have g := good_ring_Ring_Epochs_1 w (Un [f0, bkF bx ty_ptr_ring_Ring [ptrR r.b], rgF r]) [bx]
  have hs0 : Sat (cx_ring_Ring_Epochs_1 w (Un [f0, bkF bx ty_ptr_ring_Ring [ptrR r.b], rgF r]) [bx]) (Va.of fun _ => bx) 1 [] (f0 :: R :: [bkF bx ty_ptr_ring_Ring [ptrR r.b], rgF r]) w := by
    refine hm.sat rfl (fun f hf ho k hk => ?_) ⟨Nat.le_refl 1, fun i hi => by obtain rfl : i = 0 := Nat.lt_one_iff.1 hi; rfl⟩
    simp only [List.mem_cons, List.not_mem_nil, or_false] at hf
    rcases hf with rfl | rfl | rfl | rfl
    · exact ⟨_, by simp, hk⟩
    · rw [hRo] at ho; cases ho
    · exact ⟨bkF bx ty_ptr_ring_Ring [ptrR r.b], by simp, hk⟩
    · exact ⟨rgF r, by simp, hk⟩
  have hs1 := ((hs0.toBk 2 rfl 0 Nat.zero_lt_one rfl).unsep 2 rfl)
  refine con_of_sx (cx := cx_ring_Ring_Epochs_1 w (Un [f0, bkF bx ty_ptr_ring_Ring [ptrR r.b], rgF r]) [bx]) g b_ring_Ring_Epochs_1 rfl rfl (β := Va.of fun _ => bx) [.c (.v (.func (.yield l) #[] #[])), .c (.p 0 0)] 1 _ _ rfl rfl hs1 ?_
  have hml : r.ml.length = r.ks.length := by rw [Rg.ml, List.length_map]
  refine ⟨.map (some r.m), fun β w' hs => cell_bk (hs.get 0 rfl) (o := 3) rfl, ?_⟩
  refine call_con [] (fun β w' hs => keysI_c w' (some r.m)) ?_
  rintro v Fs ⟨B, rfl, rfl⟩
  refine call_conS [0, 3] (fun β w' hs => sortedN_c w' _ B _ _ _ _ r.ml.length _ (by kernel_rfl) rfl rfl (by omega) (keysI_gives B r.m r.ml) (hs.mem.take (js := [0, 3]) rfl)) ?_
  rintro v Fs ⟨A, c, L, rfl, ⟨l0, hp0, hp1⟩, hLl, hris, hA0, rfl⟩
  have hLr : L = r.rise := rise_of ((hp1.trans hp0).trans (by rw [Rg.ml_es])) hris
  subst hLr
  refine ⟨_, _, fun β w' hs => (hs.sep [2, 3, 1, 4] rfl ⟨rfl, rfl, rfl, rfl, trivial⟩).perm [1, 2, 3, 0], ?_⟩
  generalize hN : r.rise = L at *
  have hL12 : L.length ≤ 12 := by omega
  refine loop_rule (ι := List Int × Fact) 1 (fun i => [(0, .c (.v (.func (.yield l) #[] #[]))), (1, .c (.p 0 0)), (12, .c (.v (.slice A L.length c))), (13, .c (.v (.int .i64 (L.length : Int)))), (14, .c (.v (.int .i64 (i.1.length : Int))))]) (fun _ => [⟨0, ty_ptr_ring_Ring, [.v (ptrR r.b)]⟩]) (fun i => urowF A L c :: i.2 :: R :: [rgF r])
    (fun i => J i.1 i.2 ∧ i.1 = L.take i.1.length ∧ i.1.length ≤ L.length) (fun i => L.length - i.1.length) ([], f0) ⟨hJ0, rfl, Nat.zero_le _⟩ (Ent.same ⟨rfl, rfl, rfl, rfl, rfl, trivial⟩ rfl) g ?_
  rintro ⟨pre, f⟩ ⟨hJ, hpre, hi⟩
  simp only at hJ hpre hi
  have hfo := hJo _ _ hJ
  simp only
  refine BIf.dec (fun hlt => ?_) (fun hge => ?_)
  · have hlt0 : (pre.length : Int) < L.length := hlt
    have hkl : pre.length < L.length := by omega
    obtain ⟨x, hx, _⟩ := at_lt hkl
    obtain ⟨ad, hAd⟩ := hA0 (by omega)
    have hnext : pre ++ [x] = L.take (pre ++ [x]).length := by
      have e : (pre ++ [x]).length = pre.length + 1 := by rw [List.length_append]; rfl
      rw [e, List.take_add_one, hx, ← hpre]
      rfl
    have e : (pre ++ [x]).length = pre.length + 1 := by rw [List.length_append]; rfl
    refine ⟨ad, pre.length, hAd, rfl, hkl, .int .u64 x, fun β w' hs => ?_, ?_⟩
    · have h := row_rd (hs.get 0 rfl)
      rw [hAd] at h
      exact Rd.cell1 h (by simp [hx])
    refine yield_ro (X := noF) (x := x) hY 1 2 rfl hJ hfo rfl hRo (by decide) (fun β => ⟨rfl, rfl, by show pre.length < n; omega⟩) rfl (fun β w _ => ⟨trivial, fun k hk => hk.elim, fun k _ h => h.elim⟩) ?_ ?_
    · intro f2 hfo2 hJ2
      refine ⟨((pre.length + 1 : Nat) : Int), by rw [wrap_i64 (by omega) (by omega)]; rfl, ?_⟩
      refine ⟨(pre ++ [x], f2), ⟨hJ2, hnext, by show (pre ++ [x]).length ≤ _; rw [e]; omega⟩, by show L.length - (pre ++ [x]).length < L.length - pre.length; rw [e]; omega, ?_⟩
      simp only [e]
      exact Ent.mk' ⟨rfl, rfl, rfl, rfl, rfl, trivial⟩ rfl (fun β w' hs => hs.perm [1, 0, 2, 3])
    · intro f2 hfo2 hJ2 β w' hs
      exact (hs.keepB (List.nil_sublist _)).fin [0, 3] ⟨f2, _, rfl, .inr ⟨_, hJ2, rfl⟩⟩ rfl rfl rfl ⟨hfo2, rfl, trivial⟩
  · have hge0 : ¬ (pre.length : Int) < L.length := hge
    have hpl : pre = L := by rw [hpre, List.take_of_length_le (by omega)]
    subst hpl
    intro β w' hs
    exact (hs.keepB (List.nil_sublist _)).fin [1, 3] ⟨f, _, rfl, .inl ⟨_, hJ, rfl, rfl⟩⟩ rfl rfl rfl ⟨hfo, rfl, trivial⟩
theorem epK_gives (bx : Nat) (r : Rg) (hL : r.ks.length ≤ 12) : GivesN n_ring_Ring_Epochs_1 bx ty_ptr_ring_Ring [ptrR r.b] (rgF r) (rgF r) 12 (fun xs => xs = r.rise) :=
  fun l w f0 R J Jx hJ0 hJo hRo hY hm => epK_it 12 l w bx r hL f0 R J Jx hL hJ0 hJo hRo hY hm
end Go.Proofs.YtjlpcjpeljlbeaaGreatDoor.Sx

/- slices.Equal of numbers. -/
namespace Go.Proofs.YtjlpcjpeljlbeaaGreatDoor.Sx
open Go
attribute [local irreducible] Calls

theorem equalN_c (w : World) (A B : Option Addr) (xs ys : List Int) (c d : Nat) (hx : Rd 1 A xs.length (xs.map (Value.int .u64)) w) (hy : Rd 1 B ys.length (ys.map (Value.int .u64)) w) (hn : xs.length ≤ 1000000) :
    Pu Tryz.prog n_slices_Equal_uint64_uint64 #[.slice A xs.length c, .slice B ys.length d] w (.bool (decide (xs = ys))) := by
  have g := good_slices_Equal_uint64_uint64 w (Un [])
  refine con_of_sx (cx := cx_slices_Equal_uint64_uint64 w (Un [])) g b_slices_Equal_uint64_uint64 rfl rfl (β := Va.z) [.c (.v (.slice A xs.length c)), .c (.v (.slice B ys.length d))] 0 [] [oldF w] rfl rfl (old_sat rfl) ?_
  refine BIf.not (BIf.dec (fun he => ?_) (fun he => ?_))
  · have hel : xs.length = ys.length := by have h : (xs.length : Int) = ys.length := he; omega
    refine loop_rule (ι := Nat) 0 (fun i => [(0, .c (.v (.slice A xs.length c))), (1, .c (.v (.slice B ys.length d))), (12, .c (.v (.int .i64 (xs.length : Int)))), (13, .c (.v (.int .i64 (i : Int))))]) (fun _ => []) (fun _ => [oldF w])
      (fun i => i ≤ xs.length ∧ xs.take i = ys.take i) (fun i => xs.length - i) 0 ⟨Nat.zero_le _, rfl⟩ (Ent.same ⟨rfl, rfl, rfl, rfl, trivial⟩ rfl) g ?_
    rintro i ⟨hi, hpre⟩
    refine BIf.dec (fun hlt => ?_) (fun hge => ?_)
    · have hlt0 : (i : Int) < xs.length := hlt
      obtain ⟨x, hxi, _⟩ := at_lt (show i < xs.length by omega)
      obtain ⟨y, hyi, _⟩ := at_lt (show i < ys.length by omega)
      obtain ⟨ad, hA, _⟩ := hx.2 (by omega)
      obtain ⟨bd, hB, _⟩ := hy.2 (by omega)
      refine draw_rule g p_slices_Equal_uint64_uint64_6 (by kernel_rfl) [] [oldF w] (subPerm [0]) ?_
      refine ⟨_, i, hA, rfl, by omega, ?_⟩
      refine ⟨.int .u64 x, fun β w' hs => Rd.cell1 (by have h := Rd.old hx (hs.get 0 rfl); rw [hA] at h; exact h) (by rw [List.getElem?_map, hxi]; rfl), ?_⟩
      refine ⟨_, i, hB, rfl, by omega, ?_⟩
      refine ⟨.int .u64 y, fun β w' hs => Rd.cell1 (by have h := Rd.old hy (hs.get 0 rfl); rw [hB] at h; exact h) (by rw [List.getElem?_map, hyi]; rfl), ?_⟩
      refine BIf.not (BIf.dec (fun hxy => ?_) (fun hxy => ?_))
      · have hxy0 : x = y := hxy
        refine ⟨((i + 1 : Nat) : Int), by rw [wrap_i64 (by omega) (by omega)]; rfl, ?_⟩
        exact ⟨i + 1, ⟨by omega, by rw [List.take_add_one, List.take_add_one, hxi, hyi, hpre, hxy0]⟩, by omega, Ent.same ⟨rfl, rfl, rfl, rfl, trivial⟩ rfl⟩
      · have hxy0 : ¬ x = y := hxy
        intro β w' hs
        exact hs.fin [] ⟨by rw [decide_eq_false (fun h => hxy0 (by rw [h, hyi] at hxi; exact (Option.some.inj hxi).symm))]; rfl, rfl⟩
    · have hge0 : ¬ (i : Int) < xs.length := hge
      have hxy : xs = ys := by rw [List.take_of_length_le (by omega), List.take_of_length_le (by omega)] at hpre; exact hpre
      intro β w' hs
      exact hs.fin [] ⟨by rw [decide_eq_true hxy]; rfl, rfl⟩
  · have hne : ¬ (xs.length : Int) = ys.length := he
    intro β w' hs
    exact hs.fin [] ⟨by rw [decide_eq_false (fun h => hne (by rw [h]))]; rfl, rfl⟩
end Go.Proofs.YtjlpcjpeljlbeaaGreatDoor.Sx

/- How many terms a box has. -/
namespace Go.Proofs.YtjlpcjpeljlbeaaGreatDoor.Sx
open Go
attribute [local irreducible] Calls

theorem lenX_c (w : World) (b : Nat) (B : Bx.Box) (y : Lay) (hb : (bxF b B y).p w) (hbD : ∀ k, (bxF b B y).D k → k < w.heap.size) : Pu Tryz.prog n_box_Box_Len #[ptrB b] w (.int .i64 (B.L.length : Int)) := by
  have g := good_box_Box_Len w (Un [])
  refine con_of_sx (cx := cx_box_Box_Len w (Un [])) g b_box_Box_Len rfl rfl (β := Va.z) [.c (.v (ptrB b))] 0 [] [oldF w] rfl rfl (old_sat rfl) ?_
  refine ⟨.slice y.A B.L.length y.c, fun β w' hs => box_cell (bx_bk (fact_old hb hbD (hs.get 0 rfl))) (o := 2) rfl, ?_⟩
  intro β w' hs
  exact hs.fin [] ⟨rfl, rfl⟩
end Go.Proofs.YtjlpcjpeljlbeaaGreatDoor.Sx

/- Names, plainly. -/
namespace Go.Proofs.YtjlpcjpeljlbeaaGreatDoor.Nam

structure Fm where
  size : Nat
  mask : UInt8
  lead : UInt8
  least : Nat
def fms : List Fm := [⟨1, 0x80, 0, 0⟩, ⟨2, 0xe0, 0xc0, 0x80⟩, ⟨3, 0xf0, 0xe0, 0x800⟩, ⟨4, 0xf8, 0xf0, 0x10000⟩]
end Go.Proofs.YtjlpcjpeljlbeaaGreatDoor.Nam

/- Bytes as digits. -/
namespace Go.Proofs.YtjlpcjpeljlbeaaGreatDoor.Sx
open Go
attribute [local irreducible] Calls

def dgs : List UInt8 := [48, 49, 50, 51, 52, 53, 54, 55, 56, 57, 97, 98, 99, 100, 101, 102]
def hex2 (x : UInt8) : List UInt8 := [dgs.getD (x.toNat / 16) 0, dgs.getD (x.toNat % 16) 0]
end Go.Proofs.YtjlpcjpeljlbeaaGreatDoor.Sx

/- Signs: the program's decoding. -/
namespace Go.Proofs.YtjlpcjpeljlbeaaGreatDoor.Sx
open Go
attribute [local irreducible] Calls

end Go.Proofs.YtjlpcjpeljlbeaaGreatDoor.Sx

/- Signs: decoded. -/
namespace Go.Proofs.YtjlpcjpeljlbeaaGreatDoor.Sx
open Go
attribute [local irreducible] Calls

def formV (f : Nam.Fm) : List Value := [.int .i64 (f.size : Int), byte f.mask, byte f.lead, .int .i32 (f.least : Int)]
def formCells : List Value := Nam.fms.flatMap formV
/-- The table of forms. -/
def Forms (g : Nat) (w : World) : Prop := Rd 16 (some ⟨g, 0, none⟩) 1 formCells w
theorem Forms.old {g : Nat} {W w : World} (h : Forms g W) (ho : (oldF W).p w) : Forms g w := Rd.old h ho
end Go.Proofs.YtjlpcjpeljlbeaaGreatDoor.Sx

/- Signs: spans; the iterator of a text's signs; is it rightly written? -/
namespace Go.Proofs.YtjlpcjpeljlbeaaGreatDoor.Sx
open Go
attribute [local irreducible] Calls

abbrev Sp := Int × Int
def spanV (x : Sp) : List Value := [.int .i32 x.1, .int .i32 x.2]
/-! ### a text's signs, one by one -/
end Go.Proofs.YtjlpcjpeljlbeaaGreatDoor.Sx

/- Signs: the iterator of a text's signs; is it rightly written? -/
namespace Go.Proofs.YtjlpcjpeljlbeaaGreatDoor.Sx
open Go
attribute [local irreducible] Calls

end Go.Proofs.YtjlpcjpeljlbeaaGreatDoor.Sx

/- Signs: prepared. -/
namespace Go.Proofs.YtjlpcjpeljlbeaaGreatDoor.Sx
open Go
attribute [local irreducible] Calls

def blanksL : List Sp := [(0xa0, 0xa0), (0x1680, 0x1680), (0x2000, 0x200a), (0x202f, 0x202f), (0x205f, 0x205f), (0x3000, 0x3000)]
def nothingL : List Sp := [(0xad, 0xad), (0x200b, 0x200d), (0x2060, 0x2060), (0xfe00, 0xfe0f), (0xfeff, 0xfeff)]
def barredL : List Sp := [(0, 0x1f), (0x7f, 0x9f), (0x2028, 0x2029), (0x202a, 0x202e), (0x2066, 0x2069), (0xe000, 0xf8ff), (0xf0000, 0x10ffff), (0xfff9, 0xfffd), (0xfdd0, 0xfdef)]
def spansF (g : Nat) (l : List Sp) : Fact := rdF 2 (some ⟨g, 0, none⟩) l.length (l.flatMap spanV)
end Go.Proofs.YtjlpcjpeljlbeaaGreatDoor.Sx

/- Signs: written. -/
namespace Go.Proofs.YtjlpcjpeljlbeaaGreatDoor.Sx
open Go
attribute [local irreducible] Calls

end Go.Proofs.YtjlpcjpeljlbeaaGreatDoor.Sx

/- Names, plainly: what goes is nothing. -/
namespace Go.Proofs.YtjlpcjpeljlbeaaGreatDoor.Sx
open Go

end Go.Proofs.YtjlpcjpeljlbeaaGreatDoor.Sx

/- Names: a text, prepared. -/
namespace Go.Proofs.YtjlpcjpeljlbeaaGreatDoor.Sx
open Go
attribute [local irreducible] Calls

end Go.Proofs.YtjlpcjpeljlbeaaGreatDoor.Sx

/- Names: sized. -/
namespace Go.Proofs.YtjlpcjpeljlbeaaGreatDoor.Sx
open Go
attribute [local irreducible] Calls

end Go.Proofs.YtjlpcjpeljlbeaaGreatDoor.Sx

/- Names: plain ones. -/
namespace Go.Proofs.YtjlpcjpeljlbeaaGreatDoor.Sx
open Go
attribute [local irreducible] Calls

end Go.Proofs.YtjlpcjpeljlbeaaGreatDoor.Sx

/- Names as they are asked for: their tables. May it be salted so? -/
namespace Go.Proofs.YtjlpcjpeljlbeaaGreatDoor.Sx
open Go
attribute [local irreducible] Calls

/-- The tables that names want. -/
structure NamT (w : World) : Prop where
  f : Forms 7 w
  s5 : (spansF 5 blanksL).p w
  s6 : (spansF 6 nothingL).p w
  s4 : (spansF 3 barredL).p w
theorem NamT.old {W w : World} (h : NamT W) (ho : (oldF W).p w) : NamT w := ⟨Forms.old h.f ho, Rd.old h.s5 ho, Rd.old h.s6 ho, Rd.old h.s4 ho⟩
theorem NamT.sat {cx : Cx} {β : Va} {n : Nat} {H : List Bk} {F : List Fact} {w : World} (hs : Sat cx β n H F w) (j : Nat) {W : World} (hj : nth F j = some (oldF W)) (h : NamT W) : NamT w := h.old (hs.get j hj)
end Go.Proofs.YtjlpcjpeljlbeaaGreatDoor.Sx

/- Names and passwords, by the program and by the reference. -/
namespace Go.Proofs.YtjlpcjpeljlbeaaGreatDoor.Sx
open Go
attribute [local irreducible] Calls

end Go.Proofs.YtjlpcjpeljlbeaaGreatDoor.Sx

/- Secrets made. -/
namespace Go.Proofs.YtjlpcjpeljlbeaaGreatDoor.Sx
open Go
attribute [local irreducible] Calls

def clientK : List UInt8 := [67, 108, 105, 101, 110, 116, 32, 75, 101, 121]
def serverK : List UInt8 := [83, 101, 114, 118, 101, 114, 32, 75, 101, 121]
/-- What a box makes of a password. -/
noncomputable def mk1 (B : Bx.Box) (p salt : List UInt8) (it : Nat) : List UInt8 × Bx.Box := strB B p salt it
noncomputable def mk2 (B : Bx.Box) (p salt : List UInt8) (it : Nat) : List UInt8 × Bx.Box := macB (mk1 B p salt it).2 (mk1 B p salt it).1 clientK
noncomputable def mk3 (B : Bx.Box) (p salt : List UInt8) (it : Nat) : List UInt8 × Bx.Box := hashB (mk2 B p salt it).2 (mk2 B p salt it).1
noncomputable def mk4 (B : Bx.Box) (p salt : List UInt8) (it : Nat) : List UInt8 × Bx.Box := macB (mk3 B p salt it).2 (mk1 B p salt it).1 serverK
noncomputable def mk5 (B : Bx.Box) (p salt : List UInt8) (it : Nat) (t : List UInt8) : List UInt8 × Bx.Box := hashB (mk4 B p salt it).2 t
structure MkG (B : Bx.Box) (p salt : List UInt8) (it : Nat) (t : List UInt8) : Prop where
  g1 : GoodT B (mk1 B p salt it)
  g2 : GoodT (mk1 B p salt it).2 (mk2 B p salt it)
  g3 : GoodT (mk2 B p salt it).2 (mk3 B p salt it)
  g4 : GoodT (mk3 B p salt it).2 (mk4 B p salt it)
  g5 : GoodT (mk4 B p salt it).2 (mk5 B p salt it t)
theorem MkG.ext {B : Bx.Box} {p salt t : List UInt8} {it : Nat} (h : MkG B p salt it t) : (mk5 B p salt it t).2.L.length ≤ B.L.length + 5 ∧ BInv (mk5 B p salt it t).2 ∧ (mk5 B p salt it t).2.sym = B.sym := by
  have l1 := h.g1.1.len
  have l2 := h.g2.1.len
  have l3 := h.g3.1.len
  have l4 := h.g4.1.len
  have l5 := h.g5.1.len
  exact ⟨by omega, h.g5.1.inv, by rw [h.g5.1.sym, h.g4.1.sym, h.g3.1.sym, h.g2.1.sym, h.g1.1.sym]⟩
end Go.Proofs.YtjlpcjpeljlbeaaGreatDoor.Sx

/- Secrets made: one word for both ends; a box at its beginning; facts put in another way. -/
namespace Go.Proofs.YtjlpcjpeljlbeaaGreatDoor.Sx
open Go
attribute [local irreducible] Calls

theorem dropIx_ge {js : List Nat} : ∀ {F : List Fact} {i : Nat}, (∀ j ∈ js, j < i) → dropIx js i F = F
  | [], _, _ => rfl
  | f :: r, i, h => by
    have hm : memb js i = false := by
      cases hb : memb js i with
      | false => rfl
      | true => have := h i (memb_mem hb); omega
    simp only [dropIx, hm]
    rw [dropIx_ge (fun j hj => Nat.lt_succ_of_lt (h j hj))]
def box0 (sym : Bool) : Bx.Box := ⟨sym, false, []⟩
def lay0 : Lay := ⟨none, 0, 0, []⟩
theorem Sat.rbx0 {cx : Cx} {β : Va} {n : Nat} {H : List Bk} {F : List Fact} {w : World} {rb : Nat} {sym : Bool} (hs : Sat cx β n H (bkF rb ty_ostiaryref05_Box [.bool sym, .slice none 0 0, .bool false] :: F) w) : Sat cx β n H (rbxF rb (box0 sym) lay0 :: F) w := by
  have h1 := (hs.nilRow ty_ostiaryref05_Term 6).noMem (partsF []) (fun _ h => (by cases h)) (fun k hk => by obtain ⟨p, hp, _⟩ := hk; cases hp)
  have h2 := h1.sep [2, 1, 0] rfl ⟨rfl, rfl, rfl, trivial⟩
  have e : dropIx [2, 1, 0] 0 (partsF [] :: rowF ty_ostiaryref05_Term 6 (.slice none 0 0) 0 [] :: bkF rb ty_ostiaryref05_Box [.bool sym, .slice none 0 0, .bool false] :: F) = F := by
    show dropIx [2, 1, 0] 3 F = F
    exact dropIx_ge (fun j hj => by simp only [List.mem_cons, List.not_mem_nil, or_false] at hj; omega)
  rw [e] at h2
  exact h2
def SecA.fs (x : SecA) : List Fact := [browF ty_uint8 x.A3 x.s3 x.c3, browF ty_uint8 x.A2 x.s2 x.c2, browF ty_uint8 x.A1 x.s1 x.c1, browF ty_uint8 x.A0 x.s0 x.c0]
end Go.Proofs.YtjlpcjpeljlbeaaGreatDoor.Sx

/- RingPlays. -/
namespace Go.Proofs.YtjlpcjpeljlbeaaGreatDoor.Sx
open Go
attribute [local irreducible] Calls

theorem newBad_c (w : World) (b : Nat) (M : Option Addr) (n c : Nat) (room : Int) (h : ¬ (1 ≤ n ∧ n ≤ 64 ∧ 1 ≤ room ∧ room ≤ 8)) : Pu Tryz.prog n_ring_New #[ptrB b, .slice M n c, .int .i64 room] w (.tuple #[.pointer none, .int .i64 1]) := by
  refine con_of_sx (cx := cx_ring_New w (Un [])) (good_ring_New w (Un [])) b_ring_New rfl rfl (β := Va.z) [.c (.v (ptrB b)), .c (.v (.slice M n c)), .c (.v (.int .i64 room))] 0 [] [] rfl rfl (Sat.start rfl) ?_
  refine BIf.dec (fun _ => fun β w' hs => hs.fin [] ⟨rfl, rfl⟩) (fun h1 => ?_)
  refine BIf.dec (fun _ => fun β w' hs => hs.fin [] ⟨rfl, rfl⟩) (fun h2 => ?_)
  refine BIf.dec (fun _ => fun β w' hs => hs.fin [] ⟨rfl, rfl⟩) (fun h3 => ?_)
  refine BIf.dec (fun _ => fun β w' hs => hs.fin [] ⟨rfl, rfl⟩) (fun h4 => ?_)
  have h10 : ¬ (n : Int) < 1 := h1
  have h20 : ¬ (64 : Int) < (n : Int) := h2
  have h30 : ¬ room < 1 := h3
  have h40 : ¬ (8 : Int) < room := h4
  exact absurd ⟨by omega, by omega, by omega, by omega⟩ h
theorem rightR_iff {n : Nat} {room : Int} : rightR n room = true ↔ (1 ≤ n ∧ n ≤ 64 ∧ 1 ≤ room ∧ room ≤ 8) := by simp [rightR]
def OpR.ok (w : World) (o : OpR) : Prop := (Bs w o.X o.text ∧ o.text.length ≤ o.cX) ∧ (Bs w o.Y o.sum ∧ o.sum.length ≤ o.cY)
theorem opRRd {w : World} {ad : Addr} {ops : List OpR} (h : Rd 5 (some ad) ops.length (ops.flatMap OpR.cells) w) {k : Nat} {o : OpR} (ho : ops[k]? = some o) : ∀ j u, o.cells[j]? = some u → w.cell? ((ad.add (k * 5)).add j) = some u := by
  obtain ⟨hil, hie⟩ := List.getElem?_eq_some_iff.1 ho
  have h2 := Rd.elem (f := OpR.cells) (fun _ => rfl) h rfl hil
  rw [hie] at h2
  exact h2
structure RJ where
  k : Nat
  r : Rg
  x : RR
  B : Bx.Box
  y : Lay
  z : Lay
  A : Option Addr
  c : Nat
  ms : List MadeE
structure RJ.Ok (j : RJ) (n b rb rp xp : Nat) : Prop where
  k : j.k ≤ n
  rp : j.r.b = rp
  b : j.r.bx = b
  xp : j.x.b = xp
  rb : j.x.bx = rb
  ri : RI j.r j.x j.B (1 + min j.k 30)
  y : j.y.ts.map (·.1) = j.B.L
  z : j.z.ts.map (·.1) = j.B.L
  ms : MOk j.ms
  ml : j.ms.length ≤ min j.k 30
def q_ringplays_19 : Plan := .take 0 (.take 1 (.take 2 (.exec 3 (.take 4 (.take 5 (.take 6 (.take 8 (.take 9 (.take 10 (.alt 7 (.exec 11 (.take 12 (.take 13 (.take 14 (.take 15 (.take 16 (.take 19 (.take 20 (.take 21 (.alt 17 (.alt 18 (.exec 22 (.exec 23 (.take 24 (.take 25 (.done))))) (.exec 22 (.exec 18 (.exec 23 (.take 24 (.take 25 (.done))))))) (.exec 22 (.exec 17 (.exec 18 (.exec 23 (.take 24 (.take 25 (.done))))))))))))))))) (.exec 11 (.take 12 (.exec 7 (.take 13 (.take 14 (.take 15 (.take 16 (.take 19 (.take 20 (.take 21 (.alt 17 (.alt 18 (.exec 22 (.exec 23 (.take 24 (.take 25 (.done))))) (.exec 22 (.exec 18 (.exec 23 (.take 24 (.take 25 (.done))))))) (.exec 22 (.exec 17 (.exec 18 (.exec 23 (.take 24 (.take 25 (.done))))))))))))))))))))))))))))
set_option maxHeartbeats 4000000 in
theorem ringPlays_c (w : World) (sym : Bool) (A0 : Option Addr) (master : List UInt8) (c0 : Nat) (room : Int) (A1 : Option Addr) (ops : List OpR) (cA : Nat) (hc0 : master.length ≤ c0) (hA : Rd 5 A1 ops.length (ops.flatMap OpR.cells) w) (hin : ∀ o ∈ ops, o.ok w) (hn : ops.length ≤ 9223372036854775807) (hm0 : Bs w A0 master)
    (h1 : (oddF 2).p w) (h0 : (firstF 0).p w) (h2 : (oddF 8).p w) :
    Con Tryz.prog n_ostiarylaw17_RingPlays #[.bool sym, .slice A0 master.length c0, .int .i64 room, .slice A1 ops.length cA] w [] fun v Fs => v = .bool true ∧ Fs = [] := by
  have g := good_ostiarylaw17_RingPlays w (Un [])
  refine con_of_tri (cx := cx_ostiarylaw17_RingPlays w (Un [])) g b_ostiarylaw17_RingPlays rfl rfl (β := Va.z) [.c (.v (.bool sym)), .c (.v (.slice A0 master.length c0)), .c (.v (.int .i64 room)), .c (.v (.slice A1 ops.length cA))] 0 [] [oldF w] rfl rfl (old_sat rfl) ?_
  have tab : ∀ {cx : Cx} {β : Va} {n : Nat} {H : List Bk} {F : List Fact} {w' : World}, Sat cx β n H F w' → ∀ j, nth F j = some (oldF w) → Sat cx β n H (oddF 2 :: firstF 0 :: oddF 8 :: F) w' := by
    intro cx β n H F w' hs j hj
    have ho := hs.get j hj
    have k1 := hs.sub j hj rfl (oddF 8) rfl (Rd.old h2 ho) (rd_lt h2)
    have k2 := k1.sub (j + 1) hj rfl (firstF 0) rfl (Rd.old h0 ho) (rd_lt h0)
    exact k2.sub (j + 2) hj rfl (oddF 2) rfl (Rd.old h1 ho) (rd_lt h1)
  refine tri_seq g ?_
  refine tri_seq g ?_
  refine call_con [] (fun β w' hs => awake17_c w' ((tab hs 0 rfl).mem.take (js := [0, 1]) rfl)) ?_
  rintro v Fs ⟨rfl, rfl⟩
  refine tri_seq g ?_
  refine call_con [] (fun β w' hs => cutC w' A0 master c0 70 (Rd.old hm0 (hs.get 0 rfl)) hc0 (by decide)) ?_
  rintro v Fs ⟨A2, c2, rfl, q1, _, rfl⟩
  have hM : (master.take 70).length ≤ 70 := by rw [List.length_take]; omega
  generalize master.take 70 = M at hM q1 ⊢
  refine tri_seq g ?_
  refine call_con [] (fun β w' hs => newX_c w' sym) ?_
  rintro v Fs ⟨b, y0, rfl, hy0, rfl⟩
  refine reify_tri 0 (fun _ => [.bool sym, .slice none 0 0, .bool false]) rfl rfl (fun _ => rfl) (fun rb => ?_)
  refine tri_sat (fun β w' hs => hs.rbx0) ?_
  refine tri_seq g ?_
  refine call_con [] (fun β w' hs => copyC w' A2 M c2 (row_rd (hs.get 2 rfl)) (by rw [lim_eq]; omega)) ?_
  rintro v Fs ⟨A3, c3, rfl, q2, _, rfl⟩
  have hi0 := box0i sym
  by_cases hr : 1 ≤ M.length ∧ M.length ≤ 64 ∧ 1 ≤ room ∧ room ≤ 8
  rotate_left
  · have hrr : rightR M.length room = false := by
      cases h : rightR M.length room with
      | false => rfl
      | true => exact absurd (rightR_iff.1 h) hr
    refine tri_of g ?_
    refine call_pu (fun β w' hs => newBad_c w' b A3 M.length c3 room hr) ?_
    refine call_pu (fun β w' hs => rRight_c w' A2 M.length c2 room) ?_
    rw [hrr]
    refine call_pu (fun β w' hs => sameT_c w' A3 A2 M c3 c2 (row_rd (hs.get 0 rfl)) (row_rd (hs.get 3 rfl))) ?_
    refine call_con [0] (fun β w' hs => flip_c w' A3 M c3 (hs.mem.take (js := [0]) rfl) (by rw [lim_eq]; omega)) ?_
    rintro v Fs ⟨l1, hl1, rfl⟩
    intro β w' hs
    exact hs.fin [] ⟨rfl, rfl⟩
  have hrr : rightR M.length room = true := rightR_iff.2 hr
  obtain ⟨hr1, hr2, hr3, hr4⟩ := hr
  obtain ⟨rm, rfl⟩ : ∃ rm : Nat, room = (rm : Int) := ⟨room.toNat, by omega⟩
  refine tri_seq g ?_
  refine call_con [2] (fun β w' hs => newR_c w' b ⟨sym, false, []⟩ y0 A3 M c3 rm hr1 hr2 (by omega) (by omega) (by rw [hy0]; rfl) hi0 (by show 0 < 4000; decide) (by
    have h := (tab hs 4 rfl).ro 3 rfl
    exact h.mem.take (js := [5, 3, 0, 1]) rfl)) ?_
  rintro v Fs ⟨rp, mA, mc, mp, Ak, ck, y1, rfl, hy1, rfl⟩
  refine tri_seq g ?_
  refine call_pu (fun β w' hs => rRight_c w' A2 M.length c2 rm) ?_
  rw [hrr]
  refine tri_seq g ?_
  refine call_pu (fun β w' hs => sameT_c w' A3 A2 M c3 c2 (row_rd (hs.get 2 rfl)) (row_rd (hs.get 4 rfl))) ?_
  refine tri_seq g ?_
  refine call_con [2] (fun β w' hs => flip_c w' A3 M c3 (hs.mem.take (js := [2]) rfl) (by rw [lim_eq]; omega)) ?_
  rintro v Fs ⟨l1, hl1, rfl⟩
  refine tri_seq g ?_
  refine tri_seq g ?_
  refine call_con [3] (fun β w' hs => rNew_c w' rb (box0 sym) lay0 A2 M c2 rm hr2 rfl hi0 (by show 0 < 4096; decide) (by
    have h := (tab hs 5 rfl).ro 7 rfl
    exact h.mem.take (js := [6, 7, 2]) rfl)) ?_
  rintro v Fs ⟨x, z1, rfl, hxb, hxm, hxr, hxe, hxs, hxc, hz1, rfl⟩
  refine tri_seq g ?_
  refine reify_tri 1 (fun _ => [.slice none 0 0]) rfl rfl (fun _ => rfl) (fun lb => ?_)
  have hRI := RI.first (b := rp) (bx := b) (mA := mA) (mc := mc) (m := mp) (A := Ak) (c := ck) hr1 hr2 (show 1 ≤ rm by omega) (show rm ≤ 8 by omega) hi0 (Nat.le_refl 0) hxm hxr hxe hxs hxc
  have e0 : box0 sym = ⟨sym, false, []⟩ := rfl
  rw [e0] at hz1 ⊢
  generalize macB ⟨sym, false, []⟩ M (keyT 1).data.toList = q at hRI hz1 hy1 ⊢
  obtain ⟨kp, B1⟩ := q
  obtain ⟨r, hrE⟩ : ∃ r, ((ring0 rp b mA mc M rm mp).more Ak ck kp).cut = r := ⟨_, rfl⟩
  have hrb : r.b = rp := by rw [← hrE, cut_b]; rfl
  have hrx : r.bx = b := by rw [← hrE, cut_bx]; rfl
  simp only [hrE] at hRI hz1 hy1 ⊢
  refine tri_sat (F' := [rgF r, bxF b B1 y1, rrF x, rbxF rb B1 z1, mdF lb none 0 [], oldF w]) (fun β w' hs => by
    have k1 := (hs.nilRow ty_ostiarylaw17_made 3).noMem (mtF []) (fun _ h => (by cases h)) (fun k hk => by obtain ⟨p, hp, _⟩ := hk; cases hp)
    exact (k1.sep [2, 1, 0] rfl ⟨rfl, rfl, rfl, trivial⟩).perm [4, 5, 2, 1, 0, 7]) ?_
  refine tri_seq g ?_
  refine tri_exit (κ := RJ) 0 (fun i => i.Ok ops.length b rb rp x.b) 0 (fun _ => [(9, .c (.v (ptrB b))), (10, .c (.v (ptrB rb)))]) (fun _ => []) (fun i => [rgF i.r, bxF b i.B i.y, rrF i.x, rbxF rb i.B i.z, mdF lb i.A i.c i.ms, oldF w]) ?_ ?_
  · intro i hi
    refine tri_seq g ?_
    refine draw_rule g p_ostiarylaw17_RingPlays_22 (by kernel_rfl) [] [rbxF rb i.B i.z] (subPerm [3]) ?_
    refine ⟨.slice i.z.A i.B.L.length i.z.c, fun β w' hs => cell_bk (rbx_bk (hs.get 0 rfl)) (o := 1) rfl, ?_⟩
    refine call_pu (fun β w' hs => lenX_c w' b i.B i.y (hs.get 1 rfl) (hs.getLt 1 rfl)) ?_
    refine ⟨subPerm [3], ?_⟩
    refine tri_of g ?_
    intro β w' hs
    exact hs.fin [] ⟨by show Value.bool (decide _) = _; rw [decide_eq_true rfl], rfl⟩
  refine loop_rule (ι := RJ) 0 (fun i => [(9, .c (.v (ptrB b))), (10, .c (.v (ptrB rb))), (12, .c (.v (ptrR rp))), (15, .c (.v (ptrR x.b))), (16, .c (.v (.pointer (some ⟨lb, 0, none⟩)))), (72, .c (.v (.slice A1 ops.length cA))), (73, .c (.v (.int .i64 ops.length))), (74, .c (.v (.int .i64 i.k)))]) (fun _ => []) (fun i => [rgF i.r, bxF b i.B i.y, rrF i.x, rbxF rb i.B i.z, mdF lb i.A i.c i.ms, oldF w])
    (fun i => i.Ok ops.length b rb rp x.b) (fun i => ops.length - i.k) ⟨0, r, x, B1, y1, z1, none, 0, []⟩ ⟨Nat.zero_le _, hrb, hrx, rfl, hxb, hRI, hy1, hz1, (fun _ h => by cases h), Nat.zero_le _⟩ (Ent.mk' ⟨rfl, rfl, rfl, rfl, rfl, rfl, rfl, rfl, trivial⟩ rfl (fun β w' hs => (hs.keepB (List.nil_sublist _)).lower)) g ?_
  intro i hi
  have hik := hi.k
  refine BIf.dec (fun hlt => ?_) (fun hge => ?_)
  rotate_left
  · exact EntX.of i hi (Ent.mk' ⟨rfl, rfl, trivial⟩ rfl (fun β w' hs => hs))
  have hlt0 : (i.k : Int) < ops.length := hlt
  have hkl : i.k < ops.length := by omega
  obtain ⟨o, ho, hom⟩ := at_lt hkl
  obtain ⟨ad, hA1, _⟩ := hA.2 (by omega)
  refine ⟨ad, i.k, hA1, rfl, hkl, o.cells, rfl, fun β w' hs => opRRd (by have h := Rd.old hA (hs.get 5 rfl); rw [hA1] at h; exact h) ho, ?_⟩
  refine BIf.dec (fun hge2 => ?_) (fun hlt2 => ?_)
  · exact EntX.of i hi (Ent.mk' ⟨rfl, rfl, trivial⟩ rfl (fun β w' hs => (hs.keepB (List.nil_sublist _)).lower))
  have hlt20 : ¬ (30 : Int) ≤ (i.k : Int) := hlt2
  obtain ⟨⟨ho1, ho2⟩, ho3, ho4⟩ := hin o hom
  refine draw_rule g q_ringplays_19 (by kernel_rfl) _ [] (Sub.of (List.Sublist.refl _) (List.nil_sublist _)) ?_
  refine call_con [0, 1, 2, 3, 4] (R := rpOut b rb lb rp x.b (1 + min i.k 30) i.ms) (fun β w' hs => by
    have k1 := tab hs 5 rfl
    have k2 := k1.sub 8 rfl rfl (bsF o.X o.text) rfl (Rd.old ho1 (hs.get 5 rfl)) (rd_lt ho1)
    have k3 := k2.sub 9 rfl rfl (bsF o.Y o.sum) rfl (Rd.old ho3 (hs.get 5 rfl)) (rd_lt ho3)
    have h := rpdo_c w' b rb lb (1 + min i.k 30) i.r i.x i.B i.y i.z i.A i.c i.ms o hi.ri hi.b hi.rb hi.y hi.z (by omega) hi.ms (by have := hi.ml; omega) ho2 ho4 (k3.mem.take (js := [5, 6, 7, 8, 9, 1, 0, 2, 3, 4]) rfl)
    rw [hi.rp, hi.xp] at h
    exact h) ?_ ⟨rfl, rfl, rfl, rfl, rfl, trivial⟩
  rintro v Fs ⟨r2, x2, B2, y2, z2, A2', c2', ms2, rfl, hr2b, hr2x, hx2b, hx2x, hRI2, hy2, hz2, hms2, hml2, rfl⟩
  refine ⟨Sub.of (List.Sublist.refl _) (List.nil_sublist _), ?_⟩
  have ldx : ∀ w', (rrF x2).p w' → w'.cell? ((⟨x.b, 0, none⟩ : Addr).add 3) = some (.slice x2.LA x2.es.length x2.Lc) := by
    intro w' h
    rw [← hx2b]
    exact cell_bk (rr_bk h) (o := 3) rfl
  have hesl : r2.es.length = r2.ks.length := by show (r2.ks.map _).length = _; rw [List.length_map]
  have hlen : (r2.ks.length : Int) = (x2.es.length : Int) := by rw [hRI2.es, hesl]
  have hesr : r2.rise = x2.es := (rise_es' hRI2.ok).trans hRI2.es.symm
  have hks12 : r2.ks.length ≤ 12 := by have := hRI2.ok.len; have := hRI2.ok.room; omega
  have hes6 : r2.rise.length ≤ 1000000 := by rw [rise_es' hRI2.ok, hesl]; omega
  have hnext : (RJ.mk (i.k + 1) r2 x2 B2 y2 z2 A2' c2' ms2).Ok ops.length b rb rp x.b := by
    refine ⟨hkl, hr2b, hr2x, hx2b, hx2x, ?_, hy2, hz2, hms2, ?_⟩
    · have e : 1 + min (i.k + 1) 30 = 1 + min i.k 30 + 1 := by omega
      show RI r2 x2 B2 (1 + min (i.k + 1) 30)
      rw [e]
      exact hRI2
    · have := hi.ml
      show ms2.length ≤ min (i.k + 1) 30
      omega
  refine ⟨?_, ?_⟩
  · refine call_pu (v := .int .i64 (x2.es.length : Int)) (fun β w' hs => by rw [← hlen]; have h := rlen_c w' r2 (hs.get 0 rfl) (hs.getLt 0 rfl); rw [hr2b] at h; exact h) ?_
    refine ⟨Sub.of (List.Sublist.refl _) (List.nil_sublist _), ?_⟩
    refine ⟨.slice x2.LA x2.es.length x2.Lc, fun β w' hs => ldx w' (hs.get 2 rfl), ?_⟩
    refine ⟨Sub.of (List.Sublist.refl _) (List.nil_sublist _), ?_⟩
    refine BIf.not (BIf.dec (fun _ => ?_) (fun h => absurd rfl h))
    refine ⟨?_, ?_⟩
    · refine call_con [] (fun β w' hs => by have h := epochs_c w' r2; rw [hr2b] at h; exact h) ?_
      rintro v Fs ⟨bx, rfl, rfl⟩
      refine ⟨Sub.of (List.Sublist.refl _) (List.nil_sublist _), ?_⟩
      refine ⟨?_, ?_⟩
      · skip
        refine call_con [0, 1] (fun β w' hs => collectN_c w' _ bx _ _ _ _ 12 _ (by kernel_rfl) rfl rfl (by decide) (by have h := epK_gives bx r2 hks12; rw [hr2b] at h; exact h) (hs.mem.take (js := [0, 1]) rfl)) ?_
        rintro v Fs ⟨A9, c9, l9, rfl, hl9, _, _, rfl⟩
        refine ⟨Sub.of (List.Sublist.refl _) (List.nil_sublist _), ?_⟩
        refine ⟨.slice x2.LA x2.es.length x2.Lc, fun β w' hs => ldx w' (hs.get 3 rfl), ?_⟩
        refine ⟨Sub.of (List.Sublist.refl _) (List.nil_sublist _), ?_⟩
        refine call_pu (v := .bool true) (fun β w' hs => by
          have h := equalN_c w' A9 x2.LA l9 x2.es c9 x2.Lc (row_rd (hs.get 0 rfl)) (rr_es (hs.get 3 rfl)) (by rw [hl9]; exact hes6)
          rw [decide_eq_true (by rw [hl9]; exact hesr)] at h
          exact h) ?_
        refine ⟨Sub.of (List.Sublist.refl _) (List.nil_sublist _), ?_⟩
        refine ⟨((i.k + 1 : Nat) : Int), by rw [wrap_i64 (by omega) (by omega)]; rfl, ?_⟩
        exact ⟨⟨i.k + 1, r2, x2, B2, y2, z2, A2', c2', ms2⟩, hnext, by show ops.length - (i.k + 1) < ops.length - i.k; omega, Ent.mk' ⟨rfl, rfl, rfl, rfl, rfl, rfl, rfl, rfl, trivial⟩ rfl (fun β w' hs => ((hs.keepB (List.nil_sublist _)).perm [1, 2, 3, 4, 5, 6]).lower)⟩
      · refine ⟨.slice x2.LA x2.es.length x2.Lc, fun β w' hs => ldx w' (hs.get 3 rfl), ?_⟩
        refine ⟨Sub.of (List.Sublist.refl _) (List.nil_sublist _), ?_⟩
        refine call_con [0, 1] (fun β w' hs => collectN_c w' _ bx _ _ _ _ 12 _ (by kernel_rfl) rfl rfl (by decide) (by have h := epK_gives bx r2 hks12; rw [hr2b] at h; exact h) (hs.mem.take (js := [0, 1]) rfl)) ?_
        rintro v Fs ⟨A9, c9, l9, rfl, hl9, _, _, rfl⟩
        refine ⟨Sub.of (List.Sublist.refl _) (List.nil_sublist _), ?_⟩
        refine call_pu (v := .bool true) (fun β w' hs => by
          have h := equalN_c w' A9 x2.LA l9 x2.es c9 x2.Lc (row_rd (hs.get 0 rfl)) (rr_es (hs.get 3 rfl)) (by rw [hl9]; exact hes6)
          rw [decide_eq_true (by rw [hl9]; exact hesr)] at h
          exact h) ?_
        refine ⟨Sub.of (List.Sublist.refl _) (List.nil_sublist _), ?_⟩
        refine ⟨((i.k + 1 : Nat) : Int), by rw [wrap_i64 (by omega) (by omega)]; rfl, ?_⟩
        exact ⟨⟨i.k + 1, r2, x2, B2, y2, z2, A2', c2', ms2⟩, hnext, by show ops.length - (i.k + 1) < ops.length - i.k; omega, Ent.mk' ⟨rfl, rfl, rfl, rfl, rfl, rfl, rfl, rfl, trivial⟩ rfl (fun β w' hs => ((hs.keepB (List.nil_sublist _)).perm [1, 2, 3, 4, 5, 6]).lower)⟩
    · refine ⟨.slice x2.LA x2.es.length x2.Lc, fun β w' hs => ldx w' (hs.get 2 rfl), ?_⟩
      refine ⟨Sub.of (List.Sublist.refl _) (List.nil_sublist _), ?_⟩
      refine call_con [] (fun β w' hs => by have h := epochs_c w' r2; rw [hr2b] at h; exact h) ?_
      rintro v Fs ⟨bx, rfl, rfl⟩
      refine ⟨Sub.of (List.Sublist.refl _) (List.nil_sublist _), ?_⟩
      refine call_con [0, 1] (fun β w' hs => collectN_c w' _ bx _ _ _ _ 12 _ (by kernel_rfl) rfl rfl (by decide) (by have h := epK_gives bx r2 hks12; rw [hr2b] at h; exact h) (hs.mem.take (js := [0, 1]) rfl)) ?_
      rintro v Fs ⟨A9, c9, l9, rfl, hl9, _, _, rfl⟩
      refine ⟨Sub.of (List.Sublist.refl _) (List.nil_sublist _), ?_⟩
      refine call_pu (v := .bool true) (fun β w' hs => by
        have h := equalN_c w' A9 x2.LA l9 x2.es c9 x2.Lc (row_rd (hs.get 0 rfl)) (rr_es (hs.get 3 rfl)) (by rw [hl9]; exact hes6)
        rw [decide_eq_true (by rw [hl9]; exact hesr)] at h
        exact h) ?_
      refine ⟨Sub.of (List.Sublist.refl _) (List.nil_sublist _), ?_⟩
      refine ⟨((i.k + 1 : Nat) : Int), by rw [wrap_i64 (by omega) (by omega)]; rfl, ?_⟩
      exact ⟨⟨i.k + 1, r2, x2, B2, y2, z2, A2', c2', ms2⟩, hnext, by show ops.length - (i.k + 1) < ops.length - i.k; omega, Ent.mk' ⟨rfl, rfl, rfl, rfl, rfl, rfl, rfl, rfl, trivial⟩ rfl (fun β w' hs => ((hs.keepB (List.nil_sublist _)).perm [1, 2, 3, 4, 5, 6]).lower)⟩
  · refine ⟨.slice x2.LA x2.es.length x2.Lc, fun β w' hs => ldx w' (hs.get 2 rfl), ?_⟩
    refine ⟨Sub.of (List.Sublist.refl _) (List.nil_sublist _), ?_⟩
    refine call_pu (v := .int .i64 (x2.es.length : Int)) (fun β w' hs => by rw [← hlen]; have h := rlen_c w' r2 (hs.get 0 rfl) (hs.getLt 0 rfl); rw [hr2b] at h; exact h) ?_
    refine ⟨Sub.of (List.Sublist.refl _) (List.nil_sublist _), ?_⟩
    refine BIf.not (BIf.dec (fun _ => ?_) (fun h => absurd rfl h))
    refine ⟨?_, ?_⟩
    · refine call_con [] (fun β w' hs => by have h := epochs_c w' r2; rw [hr2b] at h; exact h) ?_
      rintro v Fs ⟨bx, rfl, rfl⟩
      refine ⟨Sub.of (List.Sublist.refl _) (List.nil_sublist _), ?_⟩
      refine ⟨?_, ?_⟩
      · skip
        refine call_con [0, 1] (fun β w' hs => collectN_c w' _ bx _ _ _ _ 12 _ (by kernel_rfl) rfl rfl (by decide) (by have h := epK_gives bx r2 hks12; rw [hr2b] at h; exact h) (hs.mem.take (js := [0, 1]) rfl)) ?_
        rintro v Fs ⟨A9, c9, l9, rfl, hl9, _, _, rfl⟩
        refine ⟨Sub.of (List.Sublist.refl _) (List.nil_sublist _), ?_⟩
        refine ⟨.slice x2.LA x2.es.length x2.Lc, fun β w' hs => ldx w' (hs.get 3 rfl), ?_⟩
        refine ⟨Sub.of (List.Sublist.refl _) (List.nil_sublist _), ?_⟩
        refine call_pu (v := .bool true) (fun β w' hs => by
          have h := equalN_c w' A9 x2.LA l9 x2.es c9 x2.Lc (row_rd (hs.get 0 rfl)) (rr_es (hs.get 3 rfl)) (by rw [hl9]; exact hes6)
          rw [decide_eq_true (by rw [hl9]; exact hesr)] at h
          exact h) ?_
        refine ⟨Sub.of (List.Sublist.refl _) (List.nil_sublist _), ?_⟩
        refine ⟨((i.k + 1 : Nat) : Int), by rw [wrap_i64 (by omega) (by omega)]; rfl, ?_⟩
        exact ⟨⟨i.k + 1, r2, x2, B2, y2, z2, A2', c2', ms2⟩, hnext, by show ops.length - (i.k + 1) < ops.length - i.k; omega, Ent.mk' ⟨rfl, rfl, rfl, rfl, rfl, rfl, rfl, rfl, trivial⟩ rfl (fun β w' hs => ((hs.keepB (List.nil_sublist _)).perm [1, 2, 3, 4, 5, 6]).lower)⟩
      · refine ⟨.slice x2.LA x2.es.length x2.Lc, fun β w' hs => ldx w' (hs.get 3 rfl), ?_⟩
        refine ⟨Sub.of (List.Sublist.refl _) (List.nil_sublist _), ?_⟩
        refine call_con [0, 1] (fun β w' hs => collectN_c w' _ bx _ _ _ _ 12 _ (by kernel_rfl) rfl rfl (by decide) (by have h := epK_gives bx r2 hks12; rw [hr2b] at h; exact h) (hs.mem.take (js := [0, 1]) rfl)) ?_
        rintro v Fs ⟨A9, c9, l9, rfl, hl9, _, _, rfl⟩
        refine ⟨Sub.of (List.Sublist.refl _) (List.nil_sublist _), ?_⟩
        refine call_pu (v := .bool true) (fun β w' hs => by
          have h := equalN_c w' A9 x2.LA l9 x2.es c9 x2.Lc (row_rd (hs.get 0 rfl)) (rr_es (hs.get 3 rfl)) (by rw [hl9]; exact hes6)
          rw [decide_eq_true (by rw [hl9]; exact hesr)] at h
          exact h) ?_
        refine ⟨Sub.of (List.Sublist.refl _) (List.nil_sublist _), ?_⟩
        refine ⟨((i.k + 1 : Nat) : Int), by rw [wrap_i64 (by omega) (by omega)]; rfl, ?_⟩
        exact ⟨⟨i.k + 1, r2, x2, B2, y2, z2, A2', c2', ms2⟩, hnext, by show ops.length - (i.k + 1) < ops.length - i.k; omega, Ent.mk' ⟨rfl, rfl, rfl, rfl, rfl, rfl, rfl, rfl, trivial⟩ rfl (fun β w' hs => ((hs.keepB (List.nil_sublist _)).perm [1, 2, 3, 4, 5, 6]).lower)⟩
    · refine ⟨.slice x2.LA x2.es.length x2.Lc, fun β w' hs => ldx w' (hs.get 2 rfl), ?_⟩
      refine ⟨Sub.of (List.Sublist.refl _) (List.nil_sublist _), ?_⟩
      refine call_con [] (fun β w' hs => by have h := epochs_c w' r2; rw [hr2b] at h; exact h) ?_
      rintro v Fs ⟨bx, rfl, rfl⟩
      refine ⟨Sub.of (List.Sublist.refl _) (List.nil_sublist _), ?_⟩
      refine call_con [0, 1] (fun β w' hs => collectN_c w' _ bx _ _ _ _ 12 _ (by kernel_rfl) rfl rfl (by decide) (by have h := epK_gives bx r2 hks12; rw [hr2b] at h; exact h) (hs.mem.take (js := [0, 1]) rfl)) ?_
      rintro v Fs ⟨A9, c9, l9, rfl, hl9, _, _, rfl⟩
      refine ⟨Sub.of (List.Sublist.refl _) (List.nil_sublist _), ?_⟩
      refine call_pu (v := .bool true) (fun β w' hs => by
        have h := equalN_c w' A9 x2.LA l9 x2.es c9 x2.Lc (row_rd (hs.get 0 rfl)) (rr_es (hs.get 3 rfl)) (by rw [hl9]; exact hes6)
        rw [decide_eq_true (by rw [hl9]; exact hesr)] at h
        exact h) ?_
      refine ⟨Sub.of (List.Sublist.refl _) (List.nil_sublist _), ?_⟩
      refine ⟨((i.k + 1 : Nat) : Int), by rw [wrap_i64 (by omega) (by omega)]; rfl, ?_⟩
      exact ⟨⟨i.k + 1, r2, x2, B2, y2, z2, A2', c2', ms2⟩, hnext, by show ops.length - (i.k + 1) < ops.length - i.k; omega, Ent.mk' ⟨rfl, rfl, rfl, rfl, rfl, rfl, rfl, rfl, trivial⟩ rfl (fun β w' hs => ((hs.keepB (List.nil_sublist _)).perm [1, 2, 3, 4, 5, 6]).lower)⟩
end Go.Proofs.YtjlpcjpeljlbeaaGreatDoor.Sx

/- A ring's script, read. -/
namespace Go.Proofs.YtjlpcjpeljlbeaaGreatDoor.Sx
open Go
attribute [local irreducible] Calls

theorem scriptR_of {w : World} {m : Nat} {A : Option Addr} {n c : Nat} (ho : Opens Tryz.prog w m ty_sl_ostiarylaw17_Op [.slice A n c]) : ∃ ops : List OpR, ops.length = n ∧ Rd 5 A ops.length (ops.flatMap OpR.cells) w ∧ (∀ o ∈ ops, o.ok w) ∧ n ≤ maxLen := by
  obtain ⟨A', n', c', xs, m2, hcs, h1, h2, hxl, hnil, hlen, hr, hx⟩ := ho.slice ((ok55).real (d := .slice ty_ostiarylaw17_Op) rfl rfl)
  simp only [List.cons.injEq, and_true] at hcs
  injection hcs with e1 e2 e3
  subst e1 e2 e3
  have cO : Tryz.prog.cellsOf ty_ostiarylaw17_Op = 5 := by kernel_rfl
  have cU : Tryz.prog.cellsOf ty_uint8 = 1 := by kernel_rfl
  have cB : Tryz.prog.cellsOf ty_bool = 1 := by kernel_rfl
  have cS : Tryz.prog.cellsOf ty_sl_uint8 = 1 := by kernel_rfl
  obtain ⟨ops, hol, hfl, hok⟩ := list_choose (f := OpR.cells) (p := OpR.ok w) (xs := xs) (fun x hxm => by
    obtain ⟨m3, hl, hf⟩ := (hx x hxm).structT (ok75) rfl
    have f0 := hf 0 0 1 ty_uint8 rfl rfl
    have f1 := hf 1 1 1 ty_uint8 rfl rfl
    have f2 := hf 2 2 1 ty_sl_uint8 rfl rfl
    have f3 := hf 3 3 1 ty_sl_uint8 rfl rfl
    have f4 := hf 4 4 1 ty_bool rfl rfl
    rw [cO] at hl
    rw [cU] at f0 f1
    rw [cS] at f2 f3
    rw [cB] at f4
    obtain ⟨x0, r0, rfl, k0⟩ := len_cons hl
    obtain ⟨x1, r1, rfl, k1⟩ := len_cons k0
    obtain ⟨x2, r2, rfl, k2⟩ := len_cons k1
    obtain ⟨x3, r3, rfl, k3⟩ := len_cons k2
    obtain ⟨x4, r4, rfl, k4⟩ := len_cons k3
    obtain rfl := List.eq_nil_of_length_eq_zero k4
    obtain ⟨d, hd⟩ := f0.u8 ((ok5).real (d := .int .u8) rfl rfl)
    obtain ⟨e, he⟩ := f1.u8 ((ok5).real (d := .int .u8) rfl rfl)
    obtain ⟨X, text, cX, hX, j1, _, j2⟩ := f2.bytes ((ok33).real (d := .slice ty_uint8) rfl rfl) ((ok5).real (d := .int .u8) rfl rfl) cU
    obtain ⟨Y, sum, cY, hY, j3, _, j4⟩ := f3.bytes ((ok33).real (d := .slice ty_uint8) rfl rfl) ((ok5).real (d := .int .u8) rfl rfl) cU
    obtain ⟨own, hw⟩ := f4.bool ((ok4).real (d := .bool) rfl rfl)
    simp at hd he hX hY hw
    subst hd he hX hY hw
    exact ⟨⟨d, e, X, text, cX, Y, sum, cY, own⟩, rfl, ⟨j2, j1⟩, ⟨j4, j3⟩⟩)
  rw [cO, hfl] at hr
  rw [← hxl, ← hol] at hr
  exact ⟨ops, hol.trans hxl, hr, hok, Nat.le_trans h1 h2⟩
end Go.Proofs.YtjlpcjpeljlbeaaGreatDoor.Sx

/- What a statement's proof has of its arguments, in this executor's words. -/
namespace Go.Proofs.YtjlpcjpeljlbeaaGreatDoor.Sx
open Go Go.RowKit

theorem below_of {w w' : World} (h : Chg None_ w w') : Below w.heap.size w w' :=
  ⟨h.os, h.tape, h.output, h.size, fun k hk => h.same k hk (fun q => q)⟩
end Go.Proofs.YtjlpcjpeljlbeaaGreatDoor.Sx

/- Tables that are laid: what their cells are. -/
namespace Go.Proofs.YtjlpcjpeljlbeaaGreatDoor.Sx
open Go

theorem rd_of_ints {H : Type} {enc : TypeId × Value → H} {P : Program} {W : World} {base : Nat} {sp : Nat → Bool} {held : Bool} {fuel g n : Nat} {t e : TypeId} {k : IntKind} {cs : Array Value} {zs : List Int} {q : List MemPlace}
    (ht : P.underlying t = some (.array n e)) (he : P.underlying e = some (.int k)) (hc : P.cellsOf e = 1) (hd : DataW.trod enc P W base sp held fuel t cs.toList = some (.agg (zs.map fun z => .lit (.int k z)), q)) (hcell : ∀ j, W.cell? ⟨g, j, none⟩ = cs[j]?) :
    Rd 1 (some ⟨g, 0, none⟩) zs.length (zs.map (Value.int k)) W := by
  obtain ⟨xs, m, _, hx, hlen, hn, hel⟩ := DataW.trod_array ht hd
  simp only [Prod.mk.injEq, DataW.agg.injEq] at hx
  have hzn : zs.length = n := by
    have h9 := congrArg List.length hx.1
    simp only [List.length_map] at h9
    omega
  refine ⟨by simp, fun hp => ⟨_, rfl, fun j u hu => ?_⟩⟩
  rw [List.getElem?_map] at hu
  obtain ⟨z, hz, rfl⟩ := Option.map_eq_some_iff.1 hu
  have hj : j < zs.length := (List.getElem?_eq_some_iff.1 hz).1
  have h1 := hel j (by omega)
  have h2 : (xs.map (·.1))[j]? = some (.lit (.int k z)) := by rw [← hx.1, List.getElem?_map, hz]; rfl
  rw [List.getElem?_map] at h2
  obtain ⟨x, hxj, hx1⟩ := Option.map_eq_some_iff.1 h2
  rw [hxj, hc, Nat.mul_one] at h1
  obtain ⟨y, e1, e2, _⟩ := DataW.trod_int he h1
  have hy : y = z := by
    rw [e2] at hx1
    simpa using hx1
  subst hy
  rw [add_none, Nat.zero_add, hcell j, ← Array.getElem?_toList]
  have h3 := congrArg (fun l => l[0]?) e1
  simpa [List.getElem?_drop] using h3
abbrev u32s (l : List UInt32) : List Int := l.map fun x => (x.toNat : Int)
theorem rd_u32 {g : Nat} {W : World} {l : List UInt32} (h : Rd 1 (some ⟨g, 0, none⟩) (u32s l).length ((u32s l).map (Value.int .u32)) W) : Rd 1 (some ⟨g, 0, none⟩) l.length (l.map u32) W := by
  have e : (u32s l).map (Value.int .u32) = l.map u32 := by rw [List.map_map]; rfl
  rw [e, List.length_map] at h
  exact h
end Go.Proofs.YtjlpcjpeljlbeaaGreatDoor.Sx

/- Tables that are laid, of any plain types: their cells are what they hold, in order. -/
namespace Go.Proofs.YtjlpcjpeljlbeaaGreatDoor.Sx
open Go

section
variable {H : Type} {enc : TypeId × Value → H} {P : Program} {w : World} {base : Nat} {sp : Nat → Bool} {held : Bool}
end
end Go.Proofs.YtjlpcjpeljlbeaaGreatDoor.Sx
