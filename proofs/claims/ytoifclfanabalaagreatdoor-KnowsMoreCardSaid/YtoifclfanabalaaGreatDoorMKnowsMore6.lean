/- Texts joined: Ks8, Ks9, Ka1, Rk8, Km3, BxL, Ka2, Kk1, Km1, SxTriL, Km4, Km5, Km2, Km6, OpM, TabR, OpP, Hnd, SxArg, Laid, Laid2. -/
import Derived.Test.YtoifclfanabalaaGreatDoorMKnowsMore5
import Derived.Test.YtoifclfanabalaaGreatDoorMKnowsMore4
import Derived.Test.YtoifclfanabalaaGreatDoorMKnowsMore3
import Derived.Test.YtoifclfanabalaaGreatDoorMKnowsMore2
import Derived.Handed
import Derived.Shelf.Vars
import Derived.Below
import Derived.OpenShut
import Derived.ChangeArms
import Derived.LaidMore
set_option linter.unusedVariables false
set_option linter.unusedSimpArgs false
namespace Go.Proofs.YtoifclfanabalaaGreatDoor.Sx
open Go
attribute [local irreducible] Calls
structure NdR where
  d : Nd
  A : Option Addr
  c : Nat
def NdR.vs (q : NdR) : List Value := [.slice q.A q.d.of.length q.c, .bool q.d.ok, .bool q.d.turn]
def ndVs (qs : List NdR) : List Value := qs.flatMap NdR.vs
def ownN (qs : List NdR) : Fact where
  own := true
  D := fun k => ∃ q ∈ qs, (rdF 1 q.A q.d.of.length (ints q.d.of)).D k
  p := fun w => ∀ q ∈ qs, Rd 1 q.A q.d.of.length (ints q.d.of) w
  st := fun w w' hs h q hq => (rdF 1 q.A q.d.of.length (ints q.d.of)).st w w' (fun k hk => hs k ⟨q, hq, hk⟩) (h q hq)
structure NwN where
  A : Option Addr
  c : Nat
  qs : List NdR
def ndFs (i : NwN) : List Fact := [rowF ty_knows_need 3 (.slice i.A i.qs.length i.c) i.qs.length (ndVs i.qs), ownN i.qs]
def nd0 : NdR := ⟨⟨[], false, false⟩, none, 0⟩
theorem rdD_row {A : Option Addr} {n c : Nat} {xs : List Value} {e s k : Nat} (h : (rdF s A n xs).D k) : (rowF e s (.slice A n c) n xs).D k := by
  obtain ⟨_, ad, rfl, rfl⟩ := h
  rfl
theorem foundS_len (t : List UInt8) : (foundS t).length ≤ 13 * t.length + 9 := by
  unfold foundS
  rw [sortN_len]
  have h1 := setPuts_len (foundL t) []
  have h2 := foundL_len t
  simp only [List.length_nil] at h1
  omega
theorem ndVs_app (qs : List NdR) (q : NdR) : ndVs qs ++ q.vs = ndVs (qs ++ [q]) := by simp [ndVs]
theorem Sat.addN {cx : Cx} {β : Va} {n : Nat} {H : List Bk} {F : List Fact} {w : World} (h : Sat cx β n H F w) (js : List Nat) {qs : List NdR} {A : Option Addr} {l : List Nat} {c : Nat} (e : takeIx F js = [ownN qs, irowF A l c]) (ok turn : Bool) (hn : nodupB js = true := by rfl) : Sat cx β n H (ownN (qs ++ [⟨⟨l, ok, turn⟩, A, c⟩]) :: dropIx js 0 F) w := by
  refine h.fuse js (ownN (qs ++ [⟨⟨l, ok, turn⟩, A, c⟩])) (fun w hm => ?_) (fun k hk => ?_) hn (by rw [e]; exact ⟨rfl, rfl, trivial⟩)
  · rw [e] at hm
    intro q hq
    rcases List.mem_append.1 hq with hq | hq
    · exact (show (ownN qs).p w from hm.fact (ownN qs) List.mem_cons_self) q hq
    · obtain rfl := List.mem_singleton.1 hq
      exact row_rd (show (irowF A l c).p w from hm.fact (irowF A l c) (List.mem_cons_of_mem _ (List.mem_singleton.2 rfl)))
  · rw [e]
    obtain ⟨q, hq, hk⟩ := hk
    rcases List.mem_append.1 hq with hq | hq
    · exact ⟨ownN qs, List.mem_cons_self, q, hq, hk⟩
    · obtain rfl := List.mem_singleton.1 hq
      exact ⟨irowF A l c, List.mem_cons_of_mem _ (List.mem_singleton.2 rfl), rdD_row hk⟩
theorem row_nil {e s n c : Nat} {A : Option Addr} {xs : List Value} {w : World} (h : (rowF e s (.slice A n c) n xs).p w) : A = none → c = 0 := by
  rintro rfl
  rcases h.2 with ⟨q, _⟩ | ⟨g, cap, cur, hv, _⟩
  · injection q
  · cases hv
theorem needs_c (w : World) (x : Md) (B : Bx.Box) (y : Lay) (hts : y.ts.map (·.1) = B.L) (hL : B.L.length ≤ 4096) (hsz : ∀ t ∈ B.L, TSz t) (hkt : ∀ t ∈ B.L, t.key.length ≤ 70000 ∧ t.text.length ≤ 70000) (hsl : ∀ s ∈ x.ss, s.length ≤ 1000000) (hps : x.ps.length ≤ 1000000) (hm : Mem w (mdFs x ++ [bxF x.bx B y, mlF])) :
    Con Tryz.prog n_knows_Mind_needs #[.pointer (some ⟨x.b, 0, none⟩)] w (mdFs x ++ [bxF x.bx B y]) fun v Fs => ∃ i : NwN, v = .slice i.A i.qs.length i.c ∧ i.qs.map (·.d) = ndL x.ss B.L ∧ (0 < i.qs.length → ∃ ad, i.A = some ad) ∧ Fs = ndFs i ++ (mdFs x ++ [bxF x.bx B y]) := by
  have g := good_knows_Mind_needs w (Un (mdFs x ++ [bxF x.bx B y]))
  have hs0 : Sat (cx_knows_Mind_needs w (Un (mdFs x ++ [bxF x.bx B y]))) Va.z 0 [] (mdFs x ++ [bxF x.bx B y, mlF]) w := hm.sat0 rfl (fun f hf ho k hk => by
    rcases List.mem_append.1 hf with hf | hf
    · exact ⟨f, List.mem_append_left _ hf, hk⟩
    · simp only [List.mem_cons, List.not_mem_nil, or_false] at hf
      rcases hf with rfl | rfl
      · exact ⟨_, List.mem_append_right _ (List.mem_singleton.2 rfl), hk⟩
      · cases ho)
  refine con_of_sx (cx := cx_knows_Mind_needs w (Un (mdFs x ++ [bxF x.bx B y]))) g b_knows_Mind_needs rfl rfl (β := Va.z) [.c (.v (.pointer (some ⟨x.b, 0, none⟩)))] 0 [] _ rfl rfl hs0 ?_
  have hml := maxLen_eq
  intro b1
  refine ⟨_, fun β w' hs => cellM_bk (hs.get 1 rfl) (o := 0) rfl, ?_⟩
  refine call_con [] (fun β w' hs => terms_c w' x.bx) ?_
  rintro v Fs ⟨bx, rfl, rfl⟩
  refine range_rule (α := Tm) (ι := NwN) (κ := Unit) g rfl (cv := [.pointer (some ⟨bx, 0, none⟩)]) rfl (by kernel_rfl) 2 (Nat.le_refl 2)
    (fun pre i => pre.map (·.1) = B.L.take pre.length ∧ i.qs.map (·.d) = ⟨[], false, false⟩ :: (pre.map (·.1)).map (ndT x.ss)) (fun i => [⟨1, ty_sl_knows_need, [.v (.slice i.A i.qs.length i.c)]⟩, ⟨0, ty_ptr_knows_Mind, [.v (.pointer (some ⟨x.b, 0, none⟩))]⟩]) (fun i => ndFs i ++ mdFs x) (fun i => ⟨rfl, rfl, rfl, rfl, rfl, trivial⟩)
    (fun e pre i => False) (fun i => []) (fun i => []) (fun i => trivial)
    [bkF bx ty_ptr_box_Box [ptrB x.bx], bxF x.bx B y] [] [mlF] ⟨rfl, rfl, trivial⟩ (fun g h => by obtain rfl := List.mem_singleton.1 h; rfl) ⟨some ⟨b1, 0, none⟩, 1, [nd0]⟩ ⟨rfl, rfl⟩ (fun β w hs => ⟨β, Agr.refl _ _, ?_⟩) (insT B.L)
    (fun xs Fs' => xs.length = B.L.length ∧ Fs' = [bxF x.bx B y]) (fun pre Fs' => pre.length ≤ B.L.length ∧ Fs' = [bxF x.bx B y])
    (fun l w f0 R J Jx hJ0 hJo hRo hY hm => (terms_it l w bx x.bx B y f0 R J Jx hts hL hsz hJ0 hJo hRo hY hm).mono fun _ Fs h => h) ?_ ?_ ?_
  · exact (hs.noMem (ownN [nd0]) (fun q hq => by obtain rfl := List.mem_singleton.1 hq; exact ⟨rfl, fun h => absurd h (by decide)⟩) (fun k hk => by
      obtain ⟨q, hq, _, ad, h, _⟩ := hk
      obtain rfl := List.mem_singleton.1 hq
      cases h)).perm [1, 6, 2, 0, 3, 4, 5, 7]
  · rintro i pre q args X W S l bs pn pn' hbs ⟨hpre, hqs⟩ ⟨rfl, rfl, hq⟩
    obtain ⟨t, a⟩ := q
    simp only at hq
    refine ⟨_, rfl, ?_⟩
    have hpl : pre.length < B.L.length := (List.getElem?_eq_some_iff.1 hq).1
    have hil : i.qs.length = pre.length + 1 := by
      have := congrArg List.length hqs
      simpa using this
    have htm : t ∈ B.L := List.mem_of_getElem? hq
    have htk := hkt t htm
    refine BIf.dec (fun h4 => ?_) (fun h4 => ?_)
    · have h40 : (t.kind : Int) = 4 := h4
      intro b2
      obtain ⟨q, hqd⟩ : ∃ q : NdR, q = ⟨⟨t.list, true, true⟩, a.l, a.lc⟩ := ⟨_, rfl⟩
      obtain ⟨qs', hqs'⟩ : ∃ qs', qs' = i.qs ++ [q] := ⟨_, rfl⟩
      have hql' : i.qs.length + 1 = qs'.length := by rw [hqs', List.length_append]; rfl
      refine ⟨2, i.qs.length, qs'.length, ndVs i.qs, q.vs, ndVs qs', rfl, fun β w' hs => by rw [hqd]; exact row_rd (hs.get 0 rfl), fun u hu => by rw [hqd] at hu; simp only [NdR.vs, List.mem_cons, List.not_mem_nil, or_false] at hu; rcases hu with rfl | rfl | rfl <;> rfl, hql', by rw [hqs', ndVs_app], by rw [hml]; omega, by show qs'.length * 32 ≤ _; omega, ?_⟩
      intro A2 c2 r1 r2 r3
      refine ⟨⟨A2, c2, qs'⟩, ⟨?_, ?_⟩, Ent.mk' trivial rfl (fun β w hs => ?_)⟩
      · show (pre ++ [(t, a)]).map (·.1) = B.L.take (pre ++ [(t, a)]).length
        rw [List.map_append, hpre, List.length_append, List.length_singleton, List.take_add_one, hq]
        rfl
      · show qs'.map (·.d) = _
        rw [hqs', List.map_append, hqs, hqd, List.map_append, List.map_append]
        show _ = _ :: (_ ++ [ndT x.ss t])
        unfold ndT
        rw [if_pos (show t.kind = 4 by omega)]
        rfl
      · have h2 := (hs.unsep 1 rfl).addN [6, 1] rfl true true
        rw [← hqd, ← hqs'] at h2
        have h3 : Sat _ _ (2 + 1) [⟨1, ty_sl_knows_need, [.v (.slice A2 qs'.length c2)]⟩, ⟨0, ty_ptr_knows_Mind, [.v (.pointer (some ⟨x.b, 0, none⟩))]⟩] _ _ := h2.keepB (List.sublist_cons_self _ _)
        exact Sat.lower (n' := 2) (h3.perm [5, 0, 6, 7, 8])
    · have h40 : ¬ (t.kind : Int) = 4 := h4
      refine draw_rule (rcx_good g) p_knows_Mind_needs_6 (by kernel_rfl) [⟨2, ty_box_Term, termS t a⟩, ⟨1, ty_sl_knows_need, [.v (.slice i.A i.qs.length i.c)]⟩, ⟨0, ty_ptr_knows_Mind, [.v (.pointer (some ⟨x.b, 0, none⟩))]⟩] [] (Sub.of (List.Sublist.refl _) (List.nil_sublist _)) ?_
      refine call_con [] (R := fun v Fs => ∃ A' c', v = .slice A' (foundS t.key).length c' ∧ (0 < (foundS t.key).length → ∃ ad, A' = some ad) ∧ Fs = [irowF A' (foundS t.key) c']) (fun β w' hs => Found_c w' a.k t.key a.kc htk.1 (brow_cap ((hs.unsep 0 rfl).get 3 rfl)) (((hs.unsep 0 rfl).rdRow 3 rfl).mem.take (js := [0]) rfl)) ?_
      rintro v Fs ⟨A1, c1, rfl, hA1, rfl⟩
      refine ⟨subPerm [], ?_⟩
      refine call_con [] (R := fun v Fs => ∃ A' c', v = .slice A' (foundS t.text).length c' ∧ (0 < (foundS t.text).length → ∃ ad, A' = some ad) ∧ Fs = [irowF A' (foundS t.text) c']) (fun β w' hs => Found_c w' a.t t.text a.tc htk.2 (brow_cap ((hs.unsep 1 rfl).get 2 rfl)) (((hs.unsep 1 rfl).rdRow 2 rfl).mem.take (js := [0]) rfl)) ?_
      rintro v Fs ⟨A2, c2, rfl, hA2, rfl⟩
      refine ⟨subPerm [], ?_⟩
      obtain ⟨fk, hfk⟩ : ∃ fk, foundS t.key = fk := ⟨_, rfl⟩
      obtain ⟨ft, hft⟩ : ∃ ft, foundS t.text = ft := ⟨_, rfl⟩
      have hfkl := foundS_len t.key
      have hftl := foundS_len t.text
      rw [hfk] at hA1 hfkl ⊢
      rw [hft] at hA2 hftl ⊢
      obtain ⟨of, hof⟩ : ∃ of, of = fk ++ ft := ⟨_, rfl⟩
      have hofl : fk.length + ft.length = of.length := by rw [hof, List.length_append]
      refine ⟨1, fk.length, of.length, ints fk, ints ft, ints of, rfl, fun β w' hs => row_rd (hs.get 0 rfl), ints_one _, hofl, by rw [hof]; simp [ints], by rw [hml]; omega, by show of.length * 8 ≤ _; omega, ?_⟩
      intro A3 c3 r1 r2 r3
      refine ⟨subPerm [], ?_⟩
      refine call_con [5, 6, 7] (R := fun v Fs => v = .bool (betweenB x.ss t.key) ∧ Fs = mdFs x) (hown := ⟨rfl, rfl, rfl, trivial⟩) (fun β w' hs => by
        have u := hs.unsep 2 rfl
        exact between_c w' x a.k t.key a.kc (row_nil (u.get 3 rfl)) (brow_cap (u.get 3 rfl)) htk.1 hsl hps ((u.rdRow 3 rfl).mem.take (js := [8, 9, 10, 0, 11]) rfl)) ?_
      rintro v Fs ⟨rfl, rfl⟩
      refine ⟨subPerm [], ?_⟩
      cases hbk : betweenB x.ss t.key with
      | false =>
        refine ⟨subPerm [], ?_⟩
        intro b2
        refine ⟨subPerm [], ?_⟩
        obtain ⟨q, hqd⟩ : ∃ q : NdR, q = ⟨⟨of, false, false⟩, A3, c3⟩ := ⟨_, rfl⟩
        obtain ⟨qs', hqs'⟩ : ∃ qs', qs' = i.qs ++ [q] := ⟨_, rfl⟩
        have hql' : i.qs.length + 1 = qs'.length := by rw [hqs', List.length_append]; rfl
        refine ⟨7, i.qs.length, qs'.length, ndVs i.qs, q.vs, ndVs qs', rfl, fun β w' hs => by rw [hqd]; exact row_rd (hs.get 0 rfl), fun u hu => by rw [hqd] at hu; simp only [NdR.vs, List.mem_cons, List.not_mem_nil, or_false] at hu; rcases hu with rfl | rfl | rfl <;> rfl, hql', by rw [hqs', ndVs_app], by rw [hml]; omega, by show qs'.length * 32 ≤ _; omega, ?_⟩
        intro A4 c4 p1 p2 p3
        refine ⟨subPerm [], ?_⟩
        refine ⟨⟨A4, c4, qs'⟩, ⟨?_, ?_⟩, Ent.mk' trivial rfl (fun β w hs => ?_)⟩
        · show (pre ++ [(t, a)]).map (·.1) = B.L.take (pre ++ [(t, a)]).length
          rw [List.map_append, hpre, List.length_append, List.length_singleton, List.take_add_one, hq]
          rfl
        · show qs'.map (·.d) = _
          rw [hqs', List.map_append, hqs, hqd, List.map_append, List.map_append]
          show _ = _ :: (_ ++ [ndT x.ss t])
          unfold ndT
          rw [if_neg (show ¬ t.kind = 4 by omega), hfk, hft, ← hof, hbk]
          rfl
        · have h2 := hs.addN [8, 5] rfl false false
          rw [← hqd, ← hqs'] at h2
          have h3 : Sat _ _ (2 + 1) [⟨1, ty_sl_knows_need, [.v (.slice A4 qs'.length c4)]⟩, ⟨0, ty_ptr_knows_Mind, [.v (.pointer (some ⟨x.b, 0, none⟩))]⟩] _ _ := h2.keepB (List.sublist_cons_self _ _)
          exact Sat.lower (n' := 2) (h3.perm [7, 0, 2, 3, 4])
      | true =>
        refine call_con [0, 1, 2] (R := fun v Fs => v = .bool (betweenB x.ss t.text) ∧ Fs = mdFs x) (hown := ⟨rfl, rfl, rfl, trivial⟩) (fun β w' hs => by
          have u := hs.unsep 5 rfl
          exact between_c w' x a.t t.text a.tc (row_nil (u.get 2 rfl)) (brow_cap (u.get 2 rfl)) htk.2 hsl hps ((u.rdRow 2 rfl).mem.take (js := [4, 5, 6, 0, 11]) rfl)) ?_
        rintro v Fs ⟨rfl, rfl⟩
        refine ⟨subPerm [], ?_⟩
        intro b2
        refine ⟨subPerm [], ?_⟩
        obtain ⟨q, hqd⟩ : ∃ q : NdR, q = ⟨⟨of, betweenB x.ss t.text, false⟩, A3, c3⟩ := ⟨_, rfl⟩
        obtain ⟨qs', hqs'⟩ : ∃ qs', qs' = i.qs ++ [q] := ⟨_, rfl⟩
        have hql' : i.qs.length + 1 = qs'.length := by rw [hqs', List.length_append]; rfl
        refine ⟨7, i.qs.length, qs'.length, ndVs i.qs, q.vs, ndVs qs', rfl, fun β w' hs => by rw [hqd]; exact row_rd (hs.get 0 rfl), fun u hu => by rw [hqd] at hu; simp only [NdR.vs, List.mem_cons, List.not_mem_nil, or_false] at hu; rcases hu with rfl | rfl | rfl <;> rfl, hql', by rw [hqs', ndVs_app], by rw [hml]; omega, by show qs'.length * 32 ≤ _; omega, ?_⟩
        intro A4 c4 p1 p2 p3
        refine ⟨subPerm [], ?_⟩
        refine ⟨⟨A4, c4, qs'⟩, ⟨?_, ?_⟩, Ent.mk' trivial rfl (fun β w hs => ?_)⟩
        · show (pre ++ [(t, a)]).map (·.1) = B.L.take (pre ++ [(t, a)]).length
          rw [List.map_append, hpre, List.length_append, List.length_singleton, List.take_add_one, hq]
          rfl
        · show qs'.map (·.d) = _
          rw [hqs', List.map_append, hqs, hqd, List.map_append, List.map_append]
          show _ = _ :: (_ ++ [ndT x.ss t])
          unfold ndT
          rw [if_neg (show ¬ t.kind = 4 by omega), hfk, hft, ← hof, hbk]
          rfl
        · have h2 := hs.addN [8, 5] rfl (betweenB x.ss t.text) false
          rw [← hqd, ← hqs'] at h2
          have h3 : Sat _ _ (2 + 1) [⟨1, ty_sl_knows_need, [.v (.slice A4 qs'.length c4)]⟩, ⟨0, ty_ptr_knows_Mind, [.v (.pointer (some ⟨x.b, 0, none⟩))]⟩] _ _ := h2.keepB (List.sublist_cons_self _ _)
          exact Sat.lower (n' := 2) (h3.perm [7, 0, 2, 3, 4])
  · rintro xs i Fs ⟨hpre, hqs⟩ ⟨hxs, rfl⟩
    have hx : xs.map (·.1) = B.L := by rw [hpre, hxs, List.take_length]
    rw [hx] at hqs
    intro β w' hs
    have hA : 0 < i.qs.length → ∃ ad, i.A = some ad := fun h => by
      obtain ⟨ad, q, _⟩ := (row_rd (show (rowF ty_knows_need 3 (.slice i.A i.qs.length i.c) i.qs.length (ndVs i.qs)).p w' from hs.get 1 rfl)).2 h
      exact ⟨ad, q⟩
    exact (hs.keepB (List.nil_sublist _)).fin [1, 2, 3, 4, 5, 0] ⟨i, rfl, hqs, hA, rfl⟩ rfl rfl rfl ⟨rfl, rfl, rfl, rfl, rfl, rfl, trivial⟩
  · rintro e pre j Fs ⟨⟩
abbrev mrowF (D : Option Addr) (l : List Bool) (d : Nat) : Fact := rowF ty_bool 1 (.slice D l.length d) l.length (l.map Value.bool)
def nxtG (kk : IntKind) (b r : Nat) (l ss : MLI) : Option (Int × Value) → Fact
  | none => mapIF kk b l
  | some x => itIF kk b r l (ss ++ [x]) (some x)
theorem Sat.nextG {cx : Cx} {β : Va} {n : Nat} {H : List Bk} {F : List Fact} {w : World} {kk : IntKind} (h : Sat cx β n H F w) (j : Nat) {b r : Nat} {l ss : MLI} {cur : Option (Int × Value)} (hj : nth F j = some (itIF kk b r l ss cur)) (ty : TypeId) :
    ∃ (o : {o : Option (Int × Value) // NxtI l ss o}) (w' : World), (Instr.next (.pointer (some ⟨r, 0, none⟩)) false ty).run cx.P w = .ok (nxtV kk o.1) w' ∧ Sat cx β n H (putAt F j (nxtG kk b r l ss o.1)) w' := by
  obtain ⟨⟨o, ho⟩, w', e, hs⟩ := h.nextI j hj ty
  have hlt : j < F.length := by rw [nth_eq] at hj; exact (List.getElem?_eq_some_iff.1 hj).1
  refine ⟨⟨o, ho⟩, w', e, ?_⟩
  cases o with
  | some x => exact hs
  | none =>
    have hs2 : Sat cx β n H (putAt F j (itIF kk b r l ss cur)) w' := hs
    have h3 := hs2.endJ j (b := b) (r := r) (l := l) (ss := ss) (cur := cur) (by rw [nth_eq, putAt_eq, List.getElem?_set, if_pos rfl, if_pos hlt])
    rw [putAt_eq, putAt_eq, List.set_set] at h3
    show Sat cx β n H (putAt F j (mapIF kk b l)) w'
    rw [putAt_eq]
    exact h3
theorem repl_bools (N : Nat) : repl [Value.bool false] N = (marksOf N []).map Value.bool := by
  have h : ∀ N, repl [Value.bool false] N = List.replicate N (Value.bool false) := by
    intro N
    induction N with
    | zero => rfl
    | succ k ih => rw [repl, ih]; rfl
  rw [h]
  refine List.ext_getElem (by simp [marksOf]) (fun i h1 h2 => ?_)
  simp [marksOf]
theorem bools_set (l : List Bool) (j : Nat) : putAll (l.map Value.bool) (j * 1) [.bool true] = (l.set j true).map Value.bool := by
  show putAt (l.map Value.bool) (j * 1) _ = _
  rw [putAt_eq, Nat.mul_one, List.map_set]
theorem marks_put {N n : Nat} (ns : List Nat) (h : n < N) : (marksOf N ns).set n true = marksOf N (ns ++ [n]) := by
  refine List.ext_getElem (by simp [marksOf]) (fun i h1 h2 => ?_)
  rw [List.getElem_set]
  simp only [marksOf, List.getElem_map, List.getElem_range, List.mem_append, List.mem_singleton]
  by_cases q : n = i
  · subst q
    simp
  · rw [if_neg q]
    have : ¬ i = n := fun e => q e.symm
    simp [this]
theorem marks_skip {N n : Nat} (ns : List Nat) (h : ¬ n < N) : marksOf N (ns ++ [n]) = marksOf N ns := by
  refine List.ext_getElem (by simp [marksOf]) (fun i h1 h2 => ?_)
  have hi : i < N := by simpa [marksOf] using h2
  simp only [marksOf, List.getElem_map, List.getElem_range, List.mem_append, List.mem_singleton]
  have : ¬ i = n := by omega
  simp [this]
theorem marks_perm {N : Nat} {a b : List Nat} (h : a.Perm b) : marksOf N a = marksOf N b := by
  unfold marksOf
  refine List.map_congr_left (fun i _ => ?_)
  rw [decide_eq_decide]
  exact h.mem_iff
theorem setM_inj {a b : List Nat} (h : (setM a).Perm (setM b)) : a.Perm b := by
  have := h.map (fun q : Int × Value => q.1.toNat)
  simp only [setM, List.map_map] at this
  have e : ((fun q : Int × Value => q.1.toNat) ∘ fun n : Nat => (((n : Nat) : Int), Value.agg #[])) = id := rfl
  rw [e, List.map_id, List.map_id] at this
  exact this
theorem setM_mem {x : Int × Value} {l : List Nat} (h : x ∈ setM l) : ∃ n : Nat, x = ((n : Int), Value.agg #[]) := by
  obtain ⟨n, _, rfl⟩ := List.mem_map.1 h
  exact ⟨n, rfl⟩
theorem elem3 {w : World} {A : Option Addr} {ad : Addr} {n : Nat} {qs : List NdR} (h : Rd 3 A n (ndVs qs) w) (hn : qs.length = n) (hA : A = some ad) {k : Nat} {q : NdR} (hq : qs[k]? = some q) : ∀ j u, q.vs[j]? = some u → w.cell? ((ad.add (k * 3)).add j) = some u := by
  subst hn
  obtain ⟨hil, hie⟩ := List.getElem?_eq_some_iff.1 hq
  have h2 := Rd.elem (f := NdR.vs) (fun _ => rfl) h hA hil
  rw [hie] at h2
  exact h2
theorem allD_c (w : World) (x : Md) (B : Bx.Box) (y : Lay) (hts : y.ts.map (·.1) = B.L) (hL : B.L.length ≤ 4096) (hsz : ∀ t ∈ B.L, TSz t) (hkt : ∀ t ∈ B.L, t.key.length ≤ 70000 ∧ t.text.length ≤ 70000) (hsl : ∀ s ∈ x.ss, s.length ≤ 1000000) (hps : x.ps.length ≤ 1000000) (hm : Mem w (mdFs x ++ [bxF x.bx B y, mlF])) :
    Con Tryz.prog n_knows_Mind_all #[.pointer (some ⟨x.b, 0, none⟩)] w (mdFs x ++ [bxF x.bx B y]) fun v Fs => ∃ D R d, v = .slice D (List.length R) d ∧ (∃ ad, D = some ad) ∧ Least (ndL x.ss B.L) (marksOf (B.L.length + 1) x.seen) R ∧ Fs = mrowF D R d :: (mdFs x ++ [bxF x.bx B y]) := by
  have g := good_knows_Mind_all w (Un (mdFs x ++ [bxF x.bx B y]))
  have hs0 : Sat (cx_knows_Mind_all w (Un (mdFs x ++ [bxF x.bx B y]))) Va.z 0 [] (mdFs x ++ [bxF x.bx B y, mlF]) w := hm.sat0 rfl (fun f hf ho k hk => by
    rcases List.mem_append.1 hf with hf | hf
    · exact ⟨f, List.mem_append_left _ hf, hk⟩
    · simp only [List.mem_cons, List.not_mem_nil, or_false] at hf
      rcases hf with rfl | rfl
      · exact ⟨_, List.mem_append_right _ (List.mem_singleton.2 rfl), hk⟩
      · cases ho)
  refine con_of_sx (cx := cx_knows_Mind_all w (Un (mdFs x ++ [bxF x.bx B y]))) g b_knows_Mind_all rfl rfl (β := Va.z) [.c (.v (.pointer (some ⟨x.b, 0, none⟩)))] 0 [] _ rfl rfl hs0 ?_
  have hml := maxLen_eq
  refine ⟨_, fun β w' hs => cellM_bk (hs.get 0 rfl) (o := 0) rfl, ?_⟩
  refine call_pu (fun β w' hs => lenX_c w' x.bx B y (hs.get 3 rfl) (fun k hk => hs.flt _ (List.mem_of_getElem? (i := 3) rfl) k hk)) ?_
  refine ⟨(((B.L.length + 1) : Nat) : Int), by rw [wrap_i64 (by omega) (by omega)]; rfl, ?_⟩
  obtain ⟨N, hN⟩ : ∃ N, B.L.length + 1 = N := ⟨_, rfl⟩
  rw [hN]
  refine ⟨N, N, rfl, rfl, Nat.le_refl _, by show 1 * N ≤ _; omega, by omega, fun b0 => ?_⟩
  refine ⟨_, fun β w' hs => cellM_bk (hs.get 1 rfl) (o := 2) rfl, ?_⟩
  obtain ⟨rl, hrl⟩ : ∃ rl, rl = repl ti4.zero N := ⟨_, rfl⟩
  refine ⟨Nat, fun r => .pointer (some ⟨r, 0, none⟩), fun r => [rowF ty_bool 1 (.slice (some ⟨b0, 0, none⟩) N N) N ((marksOf N []).map Value.bool), bkF x.b ty_knows_Mind x.vs, secsF x.P x.ps, itIF .i64 x.m r (setM x.seen) [] none, bxF x.bx B y, mlF], fun β w' ty hs => by rw [← repl_bools]; exact hs.rangeI g 3 rfl, fun r => ?_⟩
  refine loop_rule (ι := List Nat × Option (Int × Value)) 0 (fun _ => [(0, .c (.v (.pointer (some ⟨x.b, 0, none⟩)))), (3, .c (.v (.slice (some ⟨b0, 0, none⟩) N N))), (24, .c (.v (.pointer (some ⟨r, 0, none⟩))))]) (fun _ => []) (fun j => [rowF ty_bool 1 (.slice (some ⟨b0, 0, none⟩) N N) N ((marksOf N j.1).map Value.bool), bkF x.b ty_knows_Mind x.vs, secsF x.P x.ps, itIF .i64 x.m r (setM x.seen) (setM j.1) j.2, bxF x.bx B y, mlF])
    (fun j => True) (fun j => x.seen.length - j.1.length) ([], none) trivial (Ent.same ⟨rfl, rfl, rfl, trivial⟩ rfl) g ?_
  rintro ⟨ns, cur⟩ -
  refine ⟨{o : Option (Int × Value) // NxtI (setM x.seen) (setM ns) o}, fun o => nxtV .i64 o.1, fun o => [rowF ty_bool 1 (.slice (some ⟨b0, 0, none⟩) N N) N ((marksOf N ns).map Value.bool), bkF x.b ty_knows_Mind x.vs, secsF x.P x.ps, nxtG .i64 x.m r (setM x.seen) (setM ns) o.1, bxF x.bx B y, mlF], fun β w' ty hs => hs.nextG 3 rfl ty, ?_⟩
  rintro ⟨o, ho⟩
  cases o with
  | some q =>
    obtain ⟨hq1, hq2⟩ : q ∈ setM x.seen ∧ (setM ns).length < (setM x.seen).length := ho
    obtain ⟨n, rfl⟩ := setM_mem hq1
    have hq2 : ns.length < x.seen.length := by simpa [setM] using hq2
    have hsn : setM ns ++ [((n : Int), Value.agg #[])] = setM (ns ++ [n]) := by simp [setM]
    refine ⟨Unit, fun _ => .tuple #[.int .i64 (n : Int), Value.agg #[]], fun _ => [rowF ty_bool 1 (.slice (some ⟨b0, 0, none⟩) N N) N ((marksOf N ns).map Value.bool), bkF x.b ty_knows_Mind x.vs, secsF x.P x.ps, itIF .i64 x.m r (setM x.seen) (setM ns ++ [((n : Int), Value.agg #[])]) (some ((n : Int), Value.agg #[])), bxF x.bx B y, mlF], fun β w' ty hs => ⟨(), w', hs.entryI 3 rfl, hs⟩, fun _ => ?_⟩
    rw [hsn]
    have hmu : x.seen.length - (ns ++ [n]).length < x.seen.length - ns.length := by rw [List.length_append]; show x.seen.length - (ns.length + 1) < _; omega
    refine BIf.dec (fun hlt => ?_) (fun hge => ?_)
    · have hlt0 : (n : Int) < (N : Int) := hlt
      refine ⟨_, n, rfl, rfl, by omega, ?_⟩
      refine ⟨_, fun β w' hs => Sat.rowSet hs (j := 0) (us := [.bool true]) rfl (by show n * 1 + 1 ≤ N * 1; omega) (fun u hu => by obtain rfl := List.mem_singleton.1 hu; rfl), ?_⟩
      refine ⟨(ns ++ [n], some ((n : Int), Value.agg #[])), trivial, hmu, ?_⟩
      simp only [← marks_put ns (show n < N by omega), ← bools_set]
      exact Ent.same ⟨rfl, rfl, rfl, trivial⟩ rfl
    · have hge0 : ¬ (n : Int) < (N : Int) := hge
      refine ⟨(ns ++ [n], some ((n : Int), Value.agg #[])), trivial, hmu, ?_⟩
      simp only [marks_skip ns (show ¬ n < N by omega)]
      exact Ent.same ⟨rfl, rfl, rfl, trivial⟩ rfl
  | none =>
    have hperm : (setM ns).Perm (setM x.seen) := ho
    have hmk : marksOf N ns = marksOf N x.seen := marks_perm (setM_inj hperm)
    rw [hmk]
    refine call_con [1, 2, 3, 4] (R := fun v Fs => ∃ i : NwN, v = .slice i.A i.qs.length i.c ∧ i.qs.map (·.d) = ndL x.ss B.L ∧ (0 < i.qs.length → ∃ ad, i.A = some ad) ∧ Fs = ndFs i ++ (mdFs x ++ [bxF x.bx B y])) (hown := ⟨rfl, rfl, rfl, rfl, trivial⟩) (fun β w' hs => needs_c w' x B y hts hL hsz hkt hsl hps (hs.mem.take (js := [1, 2, 3, 4, 5]) rfl)) ?_
    rintro v Fs ⟨q, rfl, hq, hS, rfl⟩
    obtain ⟨S, sc, qs⟩ := q
    simp only at hq hS
    obtain ⟨nds, hnd⟩ : ∃ nds, ndL x.ss B.L = nds := ⟨_, rfl⟩
    obtain ⟨I, hI⟩ : ∃ I, marksOf N x.seen = I := ⟨_, rfl⟩
    have hIl : I.length = N := by rw [← hI]; exact marksOf_len _ _
    have hndl : nds.length = N := by rw [← hnd, ← hN]; simp [ndL]
    have hsh : ∀ (n : Nat) d, nds[n]? = some d → d.turn = true → d.ok = true ∧ 0 < n := fun n d hd ht => by
      rw [← hnd] at hd
      unfold ndL at hd
      cases n with
      | zero => cases hd; cases ht
      | succ n =>
        rw [List.getElem?_cons_succ, List.getElem?_map] at hd
        cases hL' : B.L[n]? with
        | none => rw [hL'] at hd; cases hd
        | some t =>
          rw [hL'] at hd
          cases hd
          unfold ndT at ht ⊢
          split
          · exact ⟨rfl, Nat.succ_pos _⟩
          · rename_i h4
            rw [if_neg h4] at ht
            cases ht
    have hsz2 : ∀ (n : Nat) d, nds[n]? = some d → d.of.length ≤ 2000000 := fun n d hd => by
      rw [← hnd] at hd
      unfold ndL at hd
      cases n with
      | zero => cases hd; exact Nat.zero_le _
      | succ n =>
        rw [List.getElem?_cons_succ, List.getElem?_map] at hd
        cases hL' : B.L[n]? with
        | none => rw [hL'] at hd; cases hd
        | some t =>
          rw [hL'] at hd
          cases hd
          have hm := List.mem_of_getElem? hL'
          have h1 := (hsz t hm).list
          have h2 := hkt t hm
          unfold ndT
          split
          · show t.list.length ≤ _
            omega
          · show (foundS t.key ++ foundS t.text).length ≤ _
            have h3 := foundS_len t.key
            have h4 := foundS_len t.text
            rw [List.length_append]
            omega
    rw [hnd] at hq ⊢
    rw [hI]
    have hql : qs.length = N := by
      have := congrArg List.length hq
      rw [List.length_map] at this
      omega
    have hq0 : (qs[0]?).map (·.d) = some ⟨[], false, false⟩ := by
      rw [← List.getElem?_map, hq, ← hnd]
      rfl
    clear hnd
    refine loop_rule (ι := List Bool × Bool) 0 (fun j => [(0, .c (.v (.pointer (some ⟨x.b, 0, none⟩)))), (3, .c (.v (.slice (some ⟨b0, 0, none⟩) N N))), (5, .c (.v (.slice S qs.length sc))), (6, .c (.v (.bool j.2)))]) (fun _ => []) (fun j => ndFs ⟨S, sc, qs⟩ ++ (mdFs x ++ [bxF x.bx B y] ++ [rowF ty_bool 1 (.slice (some ⟨b0, 0, none⟩) N N) N (j.1.map Value.bool), mlF]))
      (fun j => Inn nds I j.1 j.1 0 false ∧ (j.2 = false → Least nds I j.1)) (fun j => 2 * cntF j.1 + (if j.2 = true then 1 else 0)) (I, true) ⟨Inn.start (hIl.trans hndl.symm) (Le.refl _) (fun C _ h => h), fun q => by cases q⟩ (Ent.mk' ⟨rfl, rfl, rfl, rfl, trivial⟩ rfl (fun β w' hs => hs)) g ?_
    rintro ⟨m0, more⟩ ⟨hin, hmo⟩
    simp only at hin hmo
    cases more with
    | false =>
      have hle := hmo rfl
      have hlen : m0.length = N := by rw [hin.len]; exact hndl
      intro β w' hs
      refine hs.fin [6, 2, 3, 4, 5] ⟨some ⟨b0, 0, none⟩, m0, N, by rw [hlen]; rfl, ⟨_, rfl⟩, hle, ?_⟩ rfl rfl rfl ⟨rfl, rfl, rfl, rfl, rfl, trivial⟩
      unfold mrowF
      rw [hlen]
      rfl
    | true =>
      refine loop_rule (ι := Nat × List Bool × Bool) 0 (fun j => [(0, .c (.v (.pointer (some ⟨x.b, 0, none⟩)))), (3, .c (.v (.slice (some ⟨b0, 0, none⟩) N N))), (5, .c (.v (.slice S qs.length sc))), (6, .c (.v (.bool j.2.2))), (43, .c (.v (.slice S qs.length sc))), (44, .c (.v (.int .i64 (qs.length : Int)))), (45, .c (.v (.int .i64 (j.1 : Int))))]) (fun _ => []) (fun j => ndFs ⟨S, sc, qs⟩ ++ (mdFs x ++ [bxF x.bx B y] ++ [rowF ty_bool 1 (.slice (some ⟨b0, 0, none⟩) N N) N (j.2.1.map Value.bool), mlF]))
        (fun j => Inn nds I m0 j.2.1 j.1 j.2.2 ∧ j.1 ≤ N) (fun j => N - j.1) (0, m0, false) ⟨hin, Nat.zero_le _⟩ (Ent.mk' ⟨rfl, rfl, rfl, rfl, rfl, rfl, rfl, trivial⟩ rfl (fun β w' hs => hs)) g ?_
      rintro ⟨n, made, mo⟩ ⟨hi, hn⟩
      simp only at hi hn
      refine BIf.dec (fun hlt => ?_) (fun hge => ?_)
      · have hlt0 : (n : Int) < (qs.length : Int) := hlt
        obtain ⟨ad, hSA⟩ := hS (by omega)
        obtain ⟨q, hqn, -⟩ := at_lt (show n < qs.length by omega)
        have hd : nds[n]? = some q.d := by rw [← hq, List.getElem?_map, hqn]; rfl
        have hsh1 := hsh n q.d hd
        have hsz1 := hsz2 n q.d hd
        have hmn : made.length = N := hi.len.trans hndl
        refine ⟨ad, n, hSA, rfl, by omega, q.vs, rfl, fun β w' hs => elem3 (row_rd (hs.get 0 rfl)) rfl hSA hqn, ?_⟩
        obtain ⟨⟨of, ok, turn⟩, qA, qc⟩ := q
        simp only at hsh1 hsz1
        obtain ⟨mb, hmb, -⟩ := at_lt (show n < made.length by omega)
        have hmI : IsM made n ↔ mb = true := by rw [isM_iff, hmb, Option.some.injEq]
        have hrdO : ∀ {β : Va} {m : Nat} {H : List Bk} {F : List Fact} {w' : World}, Sat (cx_knows_Mind_all w (Un (mdFs x ++ [bxF x.bx B y]))) β m H F w' → nth F 1 = some (ownN qs) → Rd 1 qA of.length (ints of) w' := fun hs h1 => (show (ownN qs).p _ from hs.get 1 h1) ⟨⟨of, ok, turn⟩, qA, qc⟩ (List.mem_of_getElem? hqn)
        have hmem : ∀ {md : List Bool} {β : Va} {m : Nat} {H : List Bk} {w' : World}, Sat (cx_knows_Mind_all w (Un (mdFs x ++ [bxF x.bx B y]))) β m H (ndFs ⟨S, sc, qs⟩ ++ (mdFs x ++ [bxF x.bx B y] ++ [rowF ty_bool 1 (.slice (some ⟨b0, 0, none⟩) N N) N (md.map Value.bool), mlF])) w' → Mem w' [rdF 1 qA of.length (ints of), rdF 1 (some ⟨b0, 0, none⟩) N (md.map Value.bool)] := fun {md} {β} {m} {H} {w'} hs => by
          have h2 := (asRd hs 6 rfl).asRo 2 rfl
          exact (h2.ofRo 2 rfl (rdF 1 qA of.length (ints of)) rfl (hrdO hs rfl) (fun k hk => ⟨_, List.mem_of_getElem? hqn, hk⟩)).mem.take (js := [0, 1]) rfl
        have hCn : ∀ (md : List Bool) (w' : World), md.length = N → Rd 1 qA of.length (ints of) w' → Mem w' [rdF 1 qA of.length (ints of), rdF 1 (some ⟨b0, 0, none⟩) N (md.map Value.bool)] → Con Tryz.prog n_knows_have #[.slice qA of.length qc, .slice (some ⟨b0, 0, none⟩) N N] w' [] (fun v Fs => v = .bool (haveB of md) ∧ Fs = []) := fun md w' hl hr hm => by
          have h := have_c w' qA (some ⟨b0, 0, none⟩) of md qc N hr hsz1 (by unfold mkF; rw [hl]; exact hm)
          rw [hl] at h
          exact h
        have hLn : ∀ (md : List Bool) (w' : World), md.length = N → Rd 1 qA of.length (ints of) w' → Mem w' [rdF 1 qA of.length (ints of), rdF 1 (some ⟨b0, 0, none⟩) N (md.map Value.bool)] → Con Tryz.prog n_knows_lone #[.slice qA of.length qc, .slice (some ⟨b0, 0, none⟩) N N] w' [] (fun v Fs => v = loneV (leftL md of) ∧ Fs = []) := fun md w' hl hr hm => by
          have h := lone_c w' qA (some ⟨b0, 0, none⟩) of md qc N hr hsz1 (by unfold mkF; rw [hl]; exact hm)
          rw [hl] at h
          exact h
        cases turn with
        | true =>
          obtain ⟨rfl, h0⟩ := hsh1 rfl
          refine BIf.dec (fun hlt => ?_) (fun hge => absurd (show (0 : Int) < (n : Int) by omega) hge)
          refine ⟨_, n, rfl, rfl, by omega, ?_⟩
          refine ⟨.bool mb, fun β w' hs => Rd.cell1 (row_rd (show (rowF ty_bool 1 (.slice (some ⟨b0, 0, none⟩) N N) N (made.map Value.bool)).p w' from hs.get 6 rfl)) (by rw [List.getElem?_map, hmb]; rfl), ?_⟩
          cases mb with
          | true =>
            have hm2 : IsM made n := hmI.2 rfl
            have hl2 := hmn
            have hM : Mid nds I m0 made n mo ⟨of, true, true⟩ := hi.mid_no (fun _ _ _ => hm2)
            refine ⟨_, n, rfl, rfl, by omega, ?_⟩
            refine ⟨.bool true, fun β w' hs => Rd.cell1 (row_rd (show (rowF ty_bool 1 (.slice (some ⟨b0, 0, none⟩) N N) N (made.map Value.bool)).p w' from hs.get 6 rfl)) (by rw [List.getElem?_map, isM_iff.1 hm2]; rfl), ?_⟩
            refine call_con [] (fun β w' hs => hLn made w' hl2 (hrdO hs rfl) (hmem hs)) ?_
            rintro v Fs ⟨rfl, rfl⟩
            obtain ⟨L, hL⟩ : ∃ L, leftL made of = L := ⟨_, rfl⟩
            rw [hL]
            match L, hL with
            | [], hL =>
              refine ⟨((n + 1 : Nat) : Int), by rw [wrap_i64 (by omega) (by omega)]; rfl, ?_⟩
              exact ⟨(n + 1, made, mo), ⟨hM.next_no hd (fun _ _ _ k hk => by rw [hL] at hk; cases hk), by show n + 1 ≤ N; omega⟩, by show N - (n + 1) < N - n; omega, Ent.mk' ⟨rfl, rfl, rfl, rfl, rfl, rfl, rfl, trivial⟩ rfl (fun β w' hs => (hs.keepB (List.nil_sublist _)).lower)⟩
            | [k], hL =>
              refine BIf.dec (fun hk => ?_) (fun hk => ?_)
              · have hk0 : (k : Int) < (N : Int) := hk
                refine ⟨_, k, rfl, rfl, by omega, ?_⟩
                refine ⟨_, fun β w' hs => Sat.rowSet hs (j := 6) (us := [.bool true]) rfl (by show k * 1 + 1 ≤ N * 1; omega) (fun u hu => by obtain rfl := List.mem_singleton.1 hu; rfl), ?_⟩
                refine ⟨((n + 1 : Nat) : Int), by rw [wrap_i64 (by omega) (by omega)]; rfl, ?_⟩
                refine ⟨(n + 1, made.set k true, true), ⟨hM.next_put hd h0 rfl hm2 hL (by omega), by show n + 1 ≤ N; omega⟩, by show N - (n + 1) < N - n; omega, ?_⟩
                simp only [← bools_set]
                exact Ent.mk' ⟨rfl, rfl, rfl, rfl, rfl, rfl, rfl, trivial⟩ rfl (fun β w' hs => (hs.keepB (List.nil_sublist _)).lower)
              · have hk0 : ¬ (k : Int) < (N : Int) := hk
                refine ⟨((n + 1 : Nat) : Int), by rw [wrap_i64 (by omega) (by omega)]; rfl, ?_⟩
                exact ⟨(n + 1, made, mo), ⟨hM.next_no hd (fun _ _ _ k2 hk2 hlt2 => by rw [hL] at hk2; cases hk2; omega), by show n + 1 ≤ N; omega⟩, by show N - (n + 1) < N - n; omega, Ent.mk' ⟨rfl, rfl, rfl, rfl, rfl, rfl, rfl, trivial⟩ rfl (fun β w' hs => (hs.keepB (List.nil_sublist _)).lower)⟩
            | a :: b :: r, hL =>
              refine ⟨((n + 1 : Nat) : Int), by rw [wrap_i64 (by omega) (by omega)]; rfl, ?_⟩
              exact ⟨(n + 1, made, mo), ⟨hM.next_no hd (fun _ _ _ k hk => by rw [hL] at hk; cases hk), by show n + 1 ≤ N; omega⟩, by show N - (n + 1) < N - n; omega, Ent.mk' ⟨rfl, rfl, rfl, rfl, rfl, rfl, rfl, trivial⟩ rfl (fun β w' hs => (hs.keepB (List.nil_sublist _)).lower)⟩
          | false =>
            have hm2' : ¬ IsM made n := fun q => by have := hmI.1 q; cases this
            refine call_con [] (fun β w' hs => hCn made w' hmn (hrdO hs rfl) (hmem hs)) ?_
            rintro v Fs ⟨rfl, rfl⟩
            cases hv : haveB of made with
            | true =>
              refine ⟨_, n, rfl, rfl, by omega, ?_⟩
              refine ⟨_, fun β w' hs => Sat.rowSet hs (j := 6) (us := [.bool true]) rfl (by show n * 1 + 1 ≤ N * 1; omega) (fun u hu => by obtain rfl := List.mem_singleton.1 hu; rfl), ?_⟩
              have hm2 : IsM (made.set n true) n := (isM_set (by omega)).2 (.inr rfl)
              have hl2 : (made.set n true).length = N := by rw [List.length_set]; exact hmn
              have hM : Mid nds I m0 (made.set n true) n true ⟨of, true, true⟩ := hi.mid_put hd h0 hm2' rfl hv
              refine ⟨_, n, rfl, rfl, by omega, ?_⟩
              refine ⟨.bool true, fun β w' hs => Rd.cell1 (row_rd (show (rowF ty_bool 1 (.slice (some ⟨b0, 0, none⟩) N N) N ((made.set n true).map Value.bool)).p w' from (by rw [← bools_set]; exact hs.get 6 rfl))) (by rw [List.getElem?_map, isM_iff.1 hm2]; rfl), ?_⟩
              refine call_con [] (fun β w' hs => hLn (made.set n true) w' hl2 (hrdO hs rfl) (hmem (md := made.set n true) (by rw [← bools_set]; exact hs))) ?_
              rintro v Fs ⟨rfl, rfl⟩
              obtain ⟨L, hL⟩ : ∃ L, leftL (made.set n true) of = L := ⟨_, rfl⟩
              rw [hL]
              match L, hL with
              | [], hL =>
                refine ⟨((n + 1 : Nat) : Int), by rw [wrap_i64 (by omega) (by omega)]; rfl, ?_⟩
                refine ⟨(n + 1, made.set n true, true), ⟨hM.next_no hd (fun _ _ _ k hk => by rw [hL] at hk; cases hk), by show n + 1 ≤ N; omega⟩, by show N - (n + 1) < N - n; omega, ?_⟩
                simp only [← bools_set]
                exact Ent.mk' ⟨rfl, rfl, rfl, rfl, rfl, rfl, rfl, trivial⟩ rfl (fun β w' hs => (hs.keepB (List.nil_sublist _)).lower)
              | [k], hL =>
                refine BIf.dec (fun hk => ?_) (fun hk => ?_)
                · have hk0 : (k : Int) < (N : Int) := hk
                  refine ⟨_, k, rfl, rfl, by omega, ?_⟩
                  refine ⟨_, fun β w' hs => Sat.rowSet hs (j := 6) (us := [.bool true]) rfl (by show k * 1 + 1 ≤ N * 1; omega) (fun u hu => by obtain rfl := List.mem_singleton.1 hu; rfl), ?_⟩
                  refine ⟨((n + 1 : Nat) : Int), by rw [wrap_i64 (by omega) (by omega)]; rfl, ?_⟩
                  refine ⟨(n + 1, (made.set n true).set k true, true), ⟨hM.next_put hd h0 rfl hm2 hL (by omega), by show n + 1 ≤ N; omega⟩, by show N - (n + 1) < N - n; omega, ?_⟩
                  simp only [← bools_set]
                  exact Ent.mk' ⟨rfl, rfl, rfl, rfl, rfl, rfl, rfl, trivial⟩ rfl (fun β w' hs => (hs.keepB (List.nil_sublist _)).lower)
                · have hk0 : ¬ (k : Int) < (N : Int) := hk
                  refine ⟨((n + 1 : Nat) : Int), by rw [wrap_i64 (by omega) (by omega)]; rfl, ?_⟩
                  refine ⟨(n + 1, made.set n true, true), ⟨hM.next_no hd (fun _ _ _ k2 hk2 hlt2 => by rw [hL] at hk2; cases hk2; omega), by show n + 1 ≤ N; omega⟩, by show N - (n + 1) < N - n; omega, ?_⟩
                  simp only [← bools_set]
                  exact Ent.mk' ⟨rfl, rfl, rfl, rfl, rfl, rfl, rfl, trivial⟩ rfl (fun β w' hs => (hs.keepB (List.nil_sublist _)).lower)
              | a :: b :: r, hL =>
                refine ⟨((n + 1 : Nat) : Int), by rw [wrap_i64 (by omega) (by omega)]; rfl, ?_⟩
                refine ⟨(n + 1, made.set n true, true), ⟨hM.next_no hd (fun _ _ _ k hk => by rw [hL] at hk; cases hk), by show n + 1 ≤ N; omega⟩, by show N - (n + 1) < N - n; omega, ?_⟩
                simp only [← bools_set]
                exact Ent.mk' ⟨rfl, rfl, rfl, rfl, rfl, rfl, rfl, trivial⟩ rfl (fun β w' hs => (hs.keepB (List.nil_sublist _)).lower)
            | false =>
              refine ⟨_, n, rfl, rfl, by omega, ?_⟩
              refine ⟨.bool false, fun β w' hs => Rd.cell1 (row_rd (show (rowF ty_bool 1 (.slice (some ⟨b0, 0, none⟩) N N) N (made.map Value.bool)).p w' from hs.get 6 rfl)) (by rw [List.getElem?_map, hmb]; rfl), ?_⟩
              refine ⟨((n + 1 : Nat) : Int), by rw [wrap_i64 (by omega) (by omega)]; rfl, ?_⟩
              exact ⟨(n + 1, made, mo), ⟨(hi.mid_no (d := ⟨of, true, true⟩) (fun _ _ q => by rw [hv] at q; cases q)).next_no hd (fun _ _ q => absurd q hm2'), by show n + 1 ≤ N; omega⟩, by show N - (n + 1) < N - n; omega, Ent.mk' ⟨rfl, rfl, rfl, rfl, rfl, rfl, rfl, trivial⟩ rfl (fun β w' hs => (hs.keepB (List.nil_sublist _)).lower)⟩
        | false =>
          refine BIf.dec (fun hlt => ?_) (fun hge => ?_)
          · have h0 : (0 : Int) < (n : Int) := hlt
            refine ⟨_, n, rfl, rfl, by omega, ?_⟩
            refine ⟨.bool mb, fun β w' hs => Rd.cell1 (row_rd (show (rowF ty_bool 1 (.slice (some ⟨b0, 0, none⟩) N N) N (made.map Value.bool)).p w' from hs.get 6 rfl)) (by rw [List.getElem?_map, hmb]; rfl), ?_⟩
            cases mb with
            | true =>
              have hm2 : IsM made n := hmI.2 rfl
              refine ⟨((n + 1 : Nat) : Int), by rw [wrap_i64 (by omega) (by omega)]; rfl, ?_⟩
              exact ⟨(n + 1, made, mo), ⟨(hi.mid_no (d := ⟨of, ok, false⟩) (fun _ _ _ => hm2)).next_no hd (fun _ q => by cases q), by show n + 1 ≤ N; omega⟩, by show N - (n + 1) < N - n; omega, Ent.mk' ⟨rfl, rfl, rfl, rfl, rfl, rfl, rfl, trivial⟩ rfl (fun β w' hs => (hs.keepB (List.nil_sublist _)).lower)⟩
            | false =>
              have hm2' : ¬ IsM made n := fun q => by have := hmI.1 q; cases this
              cases ok with
              | false =>
                refine ⟨((n + 1 : Nat) : Int), by rw [wrap_i64 (by omega) (by omega)]; rfl, ?_⟩
                exact ⟨(n + 1, made, mo), ⟨(hi.mid_no (d := ⟨of, false, false⟩) (fun _ q => by cases q)).next_no hd (fun _ q => by cases q), by show n + 1 ≤ N; omega⟩, by show N - (n + 1) < N - n; omega, Ent.mk' ⟨rfl, rfl, rfl, rfl, rfl, rfl, rfl, trivial⟩ rfl (fun β w' hs => (hs.keepB (List.nil_sublist _)).lower)⟩
              | true =>
                refine call_con [] (fun β w' hs => hCn made w' hmn (hrdO hs rfl) (hmem hs)) ?_
                rintro v Fs ⟨rfl, rfl⟩
                cases hv : haveB of made with
                | true =>
                  refine ⟨_, n, rfl, rfl, by omega, ?_⟩
                  refine ⟨_, fun β w' hs => Sat.rowSet hs (j := 6) (us := [.bool true]) rfl (by show n * 1 + 1 ≤ N * 1; omega) (fun u hu => by obtain rfl := List.mem_singleton.1 hu; rfl), ?_⟩
                  refine ⟨((n + 1 : Nat) : Int), by rw [wrap_i64 (by omega) (by omega)]; rfl, ?_⟩
                  refine ⟨(n + 1, made.set n true, true), ⟨(hi.mid_put hd (show 0 < n by omega) hm2' rfl hv).next_no hd (fun _ q => by cases q), by show n + 1 ≤ N; omega⟩, by show N - (n + 1) < N - n; omega, ?_⟩
                  simp only [← bools_set]
                  exact Ent.mk' ⟨rfl, rfl, rfl, rfl, rfl, rfl, rfl, trivial⟩ rfl (fun β w' hs => (hs.keepB (List.nil_sublist _)).lower)
                | false =>
                  refine ⟨((n + 1 : Nat) : Int), by rw [wrap_i64 (by omega) (by omega)]; rfl, ?_⟩
                  exact ⟨(n + 1, made, mo), ⟨(hi.mid_no (d := ⟨of, true, false⟩) (fun _ _ q => by rw [hv] at q; cases q)).next_no hd (fun _ q => by cases q), by show n + 1 ≤ N; omega⟩, by show N - (n + 1) < N - n; omega, Ent.mk' ⟨rfl, rfl, rfl, rfl, rfl, rfl, rfl, trivial⟩ rfl (fun β w' hs => (hs.keepB (List.nil_sublist _)).lower)⟩
          · have h0 : ¬ (0 : Int) < (n : Int) := hge
            refine ⟨((n + 1 : Nat) : Int), by rw [wrap_i64 (by omega) (by omega)]; rfl, ?_⟩
            exact ⟨(n + 1, made, mo), ⟨(hi.mid_no (d := ⟨of, ok, false⟩) (fun q => absurd q (by omega))).next_no hd (fun q => absurd q (by omega)), by show n + 1 ≤ N; omega⟩, by show N - (n + 1) < N - n; omega, Ent.mk' ⟨rfl, rfl, rfl, rfl, rfl, rfl, rfl, trivial⟩ rfl (fun β w' hs => (hs.keepB (List.nil_sublist _)).lower)⟩
      · have hge0 : ¬ (n : Int) < (qs.length : Int) := hge
        obtain rfl : n = N := by omega
        have hi2 : Inn nds I m0 made nds.length mo := by rw [hndl]; exact hi
        refine ⟨(made, mo), ⟨Inn.start hi.len hi.le0 hi.least, fun q => by obtain rfl : mo = false := q; exact hi2.done⟩, ?_, Ent.mk' ⟨rfl, rfl, rfl, rfl, trivial⟩ rfl (fun β w' hs => hs)⟩
        show (2 * cntF made + if mo = true then 1 else 0) < 2 * cntF m0 + 1
        have hc := hi.cnt
        cases mo with
        | false => simp; omega
        | true => have := hi.lt rfl; simp; omega
theorem all_c (w : World) (x : Md) (B : Bx.Box) (y : Lay) (hts : y.ts.map (·.1) = B.L) (hL : B.L.length ≤ 4096) (hsz : ∀ t ∈ B.L, TSz t) (hkt : ∀ t ∈ B.L, t.key.length ≤ 70000 ∧ t.text.length ≤ 70000) (hsl : ∀ s ∈ x.ss, s.length ≤ 1000000) (hps : x.ps.length ≤ 1000000) (hm : Mem w (mdFs x ++ [bxF x.bx B y, mlF])) :
    Con Tryz.prog n_knows_Mind_all #[.pointer (some ⟨x.b, 0, none⟩)] w (mdFs x ++ [bxF x.bx B y]) fun v Fs => ∃ D R d, v = .slice D (List.length R) d ∧ Least (ndL x.ss B.L) (marksOf (B.L.length + 1) x.seen) R ∧ Fs = mrowF D R d :: (mdFs x ++ [bxF x.bx B y]) :=
  (allD_c w x B y hts hL hsz hkt hsl hps hm).mono fun _ _ ⟨D, R, d, h1, _, h2, h3⟩ => ⟨D, R, d, h1, h2, h3⟩
theorem made_c (w : World) (x : Md) (B : Bx.Box) (y : Lay) (n : Int) (hts : y.ts.map (·.1) = B.L) (hL : B.L.length ≤ 4096) (hsz : ∀ t ∈ B.L, TSz t) (hkt : ∀ t ∈ B.L, t.key.length ≤ 70000 ∧ t.text.length ≤ 70000) (hsl : ∀ s ∈ x.ss, s.length ≤ 1000000) (hps : x.ps.length ≤ 1000000) (hm : Mem w (mdFs x ++ [bxF x.bx B y, mlF])) :
    Con Tryz.prog n_knows_Mind_Made #[.pointer (some ⟨x.b, 0, none⟩), .int .i64 n] w (mdFs x ++ [bxF x.bx B y]) fun v Fs => ∃ R, Least (ndL x.ss B.L) (marksOf (B.L.length + 1) x.seen) R ∧ v = .bool (markB R n) ∧ Fs = mdFs x ++ [bxF x.bx B y] := by
  have g := good_knows_Mind_Made w (Un (mdFs x ++ [bxF x.bx B y]))
  have hs0 : Sat (cx_knows_Mind_Made w (Un (mdFs x ++ [bxF x.bx B y]))) Va.z 0 [] (mdFs x ++ [bxF x.bx B y, mlF]) w := hm.sat0 rfl (fun f hf ho k hk => by
    rcases List.mem_append.1 hf with hf | hf
    · exact ⟨f, List.mem_append_left _ hf, hk⟩
    · simp only [List.mem_cons, List.not_mem_nil, or_false] at hf
      rcases hf with rfl | rfl
      · exact ⟨_, List.mem_append_right _ (List.mem_singleton.2 rfl), hk⟩
      · cases ho)
  refine con_of_sx (cx := cx_knows_Mind_Made w (Un (mdFs x ++ [bxF x.bx B y]))) g b_knows_Mind_Made rfl rfl (β := Va.z) [.c (.v (.pointer (some ⟨x.b, 0, none⟩))), .c (.v (.int .i64 n))] 0 [] _ rfl rfl hs0 ?_
  refine call_con [0, 1, 2, 3] (R := fun v Fs => ∃ D R d, v = .slice D (List.length R) d ∧ Least (ndL x.ss B.L) (marksOf (B.L.length + 1) x.seen) R ∧ Fs = mrowF D R d :: (mdFs x ++ [bxF x.bx B y])) (hown := ⟨rfl, rfl, rfl, rfl, trivial⟩) (fun β w' hs => all_c w' x B y hts hL hsz hkt hsl hps hs.mem) ?_
  rintro v Fs ⟨D, R, d, rfl, hR, rfl⟩
  refine call_pu (fun β w' hs => marked_c w' D R d n (row_rd (hs.get 0 rfl))) ?_
  intro β w' hs
  exact hs.fin [1, 2, 3, 4] ⟨R, hR, rfl, rfl⟩ rfl rfl rfl ⟨rfl, rfl, rfl, rfl, trivial⟩
theorem mem_setPut {l : List Nat} {n m : Nat} : m ∈ setPut l n ↔ m ∈ l ∨ m = n := by
  unfold setPut
  split
  · rename_i h
    exact ⟨.inl, fun q => q.elim id (fun e => e ▸ h)⟩
  · rw [List.mem_append, List.mem_singleton]
theorem mem_setPuts : ∀ {ns l : List Nat} {m : Nat}, m ∈ ns.foldl setPut l ↔ m ∈ l ∨ m ∈ ns
  | [], l, m => by simp
  | n :: r, l, m => by
    rw [List.foldl_cons, mem_setPuts, mem_setPut, List.mem_cons, or_assoc]
theorem mem_foundS {t : List UInt8} {n : Nat} : n ∈ foundS t ↔ n ∈ foundL t := by
  unfold foundS sortN
  rw [List.mem_mergeSort, mem_setPuts]
  simp
theorem nums_short {t : List UInt8} (h : t.length < 32) : numsL t = [] := by
  unfold numsL
  rw [scan_end (by omega)]
  rfl
theorem foundL_short {t : List UInt8} (h : t.length + 3 < 32) : foundL t = [] := by
  unfold foundL
  rw [nums_short (by omega), List.nil_append, List.flatMap_eq_nil_iff]
  intro s hs
  rw [List.flatMap_eq_nil_iff]
  intro q hq
  have h1 := runsA_len hs
  have h2 := readL_len hq
  exact nums_short (by omega)
theorem foundS_short {t : List UInt8} (h : t.length + 3 < 32) : foundS t = [] := by
  unfold foundS
  rw [foundL_short h]
  simp [sortN]
theorem scan_handle {n : Nat} (hn : n < 4294967296) (h0 : 0 < n) : scan (Bx.handle n) 0 = [(0, n)] := by
  have hl := Bx.handle_len n
  have hh : hit (Bx.handle n) 0 = some n := by
    unfold hit
    rw [List.drop_zero, List.take_of_length_le (by omega), Bx.looks_handle hn]
    simp only
    rw [if_pos h0]
  rw [scan_hit (by omega) hh, scan_end (by omega)]
theorem found_handle {n : Nat} (hn : n < 4294967296) (h0 : 0 < n) : n ∈ foundS (Bx.handle n) := by
  rw [mem_foundS]
  unfold foundL numsL
  rw [scan_handle hn h0]
  simp
theorem between_short {ss : List (List UInt8)} {p : List UInt8} (h : p.length < 32) : betweenB ss p = plainB ss p := by
  unfold betweenB
  rw [scan_end (by omega)]
  simp [gaps]
theorem drop_less : ∀ (l : List Nat) (n : Nat), l.drop (lessT l n).length = l.dropWhile fun x => decide (x < n)
  | [], _ => rfl
  | x :: r, n => by
    have ih := drop_less r n
    unfold lessT at ih ⊢
    by_cases h : x < n
    · rw [List.takeWhile_cons_of_pos (by simpa using h), List.dropWhile_cons_of_pos (by simpa using h), List.length_cons, List.drop_succ_cons]
      exact ih
    · rw [List.takeWhile_cons_of_neg (by simpa using h), List.dropWhile_cons_of_neg (by simpa using h)]
      rfl
theorem lessT_split (l : List Nat) (n : Nat) : l = lessT l n ++ l.drop (lessT l n).length := by
  rw [drop_less]
  exact (List.takeWhile_append_dropWhile ..).symm
theorem putL_mem {l : List Nat} {n m : Nat} : m ∈ putL l n ↔ m ∈ l ∨ m = n := by
  unfold putL
  split
  · rename_i h
    exact ⟨.inl, fun q => q.elim id (fun e => e ▸ h)⟩
  · conv => rhs; rw [lessT_split l n]
    rw [List.mem_append, List.mem_append, List.mem_cons]
    constructor
    · rintro (h | h | h)
      · exact .inl (.inl h)
      · exact .inr h
      · exact .inl (.inr h)
    · rintro ((h | h) | h)
      · exact .inl h
      · exact .inr (.inr h)
      · exact .inr (.inl h)
theorem putsL_mem : ∀ {ns l : List Nat} {m : Nat}, m ∈ ns.foldl putL l ↔ m ∈ l ∨ m ∈ ns
  | [], l, m => by simp
  | n :: r, l, m => by
    rw [List.foldl_cons, putsL_mem, putL_mem, List.mem_cons, or_assoc]
theorem putL_rise {l : List Nat} {n : Nat} (h : l.Pairwise (· < ·)) : (putL l n).Pairwise (· < ·) := by
  unfold putL
  split
  · exact h
  · rename_i hno
    have hs := lessT_split l n
    have hlt : ∀ x ∈ lessT l n, x < n := fun x hx => by
      have := List.all_eq_true.1 (List.all_takeWhile (p := fun x => decide (x < n)) (l := l)) x hx
      simpa using this
    have hp := h
    rw [hs] at hp
    obtain ⟨h1, h2, h3⟩ := List.pairwise_append.1 hp
    refine List.pairwise_append.2 ⟨h1, List.pairwise_cons.2 ⟨fun y hy => ?_, h2⟩, fun x hx y hy => ?_⟩
    · -- what stands behind is greater
      have hge : ∀ z, (l.drop (lessT l n).length).head? = some z → ¬ z < n := fun z hz q => by
        rw [drop_less] at hz
        have := List.head?_dropWhile_not (fun x => decide (x < n)) l
        rw [hz] at this
        simp at this
        omega
      have hy' : y ≠ n := fun q => hno (by have h9 := List.mem_of_mem_drop hy; rwa [q] at h9)
      cases hd : l.drop (lessT l n).length with
      | nil => rw [hd] at hy; cases hy
      | cons z r =>
        have hz := hge z (by rw [hd]; rfl)
        rw [hd] at hy h2
        have hz' : z ≠ n := fun q => hno (by have h9 : z ∈ l := List.mem_of_mem_drop (by rw [hd]; exact List.mem_cons_self); rwa [q] at h9)
        rcases List.mem_cons.1 hy with rfl | hy
        · omega
        · have := (List.pairwise_cons.1 h2).1 y hy
          omega
    · rcases List.mem_cons.1 hy with rfl | hy
      · exact hlt x hx
      · exact h3 x hx y hy
theorem putsL_rise : ∀ {ns l : List Nat}, l.Pairwise (· < ·) → (ns.foldl putL l).Pairwise (· < ·)
  | [], _, h => h
  | n :: r, l, h => putsL_rise (ns := r) (putL_rise h)
theorem setPut_nodup {l : List Nat} {n : Nat} (h : l.Nodup) : (setPut l n).Nodup := by
  unfold setPut
  split
  · exact h
  · rename_i hn
    exact List.nodup_append.2 ⟨h, List.nodup_cons.2 ⟨fun q => (by cases q), List.nodup_nil⟩, fun a ha b hb q => by
      obtain rfl := List.mem_singleton.1 hb
      exact hn (q ▸ ha)⟩
theorem setPuts_nodup : ∀ {ns l : List Nat}, l.Nodup → (ns.foldl setPut l).Nodup
  | [], _, h => h
  | n :: r, l, h => setPuts_nodup (ns := r) (setPut_nodup h)
theorem foundS_rise (t : List UInt8) : (foundS t).Pairwise (· < ·) := by
  have hn : ((foundL t).foldl setPut []).Nodup := setPuts_nodup List.nodup_nil
  unfold foundS sortN
  have h1 := List.pairwise_mergeSort (le := fun x y => decide (x ≤ y)) (fun a b c p q => by simp only [decide_eq_true_eq] at *; omega) (fun a b => by simp only [Bool.or_eq_true, decide_eq_true_eq]; omega) ((foundL t).foldl setPut [])
  have h2 : (((foundL t).foldl setPut []).mergeSort (fun x y => decide (x ≤ y))).Nodup := (List.mergeSort_perm _ _).nodup_iff.2 hn
  refine (h1.and h2).imp fun {a b} q => ?_
  have := of_decide_eq_true q.1
  have := q.2
  omega
theorem puts_found (t : List UInt8) : (foundL t).foldl putL [] = foundS t := by
  refine List.Perm.eq_of_pairwise (le := fun a b => a < b) (fun a b _ _ p q => absurd p (by omega)) (putsL_rise List.Pairwise.nil) (foundS_rise t) ?_
  refine (List.perm_ext_iff_of_nodup ((putsL_rise List.Pairwise.nil).imp fun h => Nat.ne_of_lt h) ((foundS_rise t).imp fun h => Nat.ne_of_lt h)).2 fun m => ?_
  rw [putsL_mem, mem_foundS]
  simp
structure RM where
  yb : Nat
  rb : Nat
  P : Option Addr
  n : Nat
  cP : Nat
  S : Option Addr
  l : List Nat
  c : Nat
def RM.vs (z : RM) : List Value := [.pointer (some ⟨z.rb, 0, none⟩), .slice z.P z.n z.cP, .slice z.S z.l.length z.c]
def rmFs (z : RM) : List Fact := [bkF z.yb ty_ostiaryref28_Mind z.vs, irowF z.S z.l z.c]
theorem rSee_c (w : World) (z : RM) (A : Option Addr) (t : List UInt8) (cA : Nat) (hl : t.length ≤ 1000) (hc : t.length ≤ cA) (hz : z.l.length ≤ 1000000) (hm : Mem w (rmFs z ++ [bsF A t])) :
    Con Tryz.prog n_ostiaryref28_See #[.pointer (some ⟨z.yb, 0, none⟩), .slice A t.length cA] w (rmFs z) fun v Fs => v = .tuple #[] ∧ ∃ S l c, l.length ≤ z.l.length + 14000 ∧ Fs = rmFs { z with S := S, l := l, c := c } := by
  have g := good_ostiaryref28_See w (Un (rmFs z))
  have hml := maxLen_eq
  have hs0 : Sat (cx_ostiaryref28_See w (Un (rmFs z))) Va.z 0 [] (rmFs z ++ [bsF A t]) w := hm.sat0 rfl (fun f hf ho k hk => by
    rcases List.mem_append.1 hf with hf | hf
    · exact ⟨f, hf, hk⟩
    · obtain rfl := List.mem_singleton.1 hf; cases ho)
  refine con_of_sx (cx := cx_ostiaryref28_See w (Un (rmFs z))) g b_ostiaryref28_See rfl rfl (β := Va.z) [.c (.v (.pointer (some ⟨z.yb, 0, none⟩))), .c (.v (.slice A t.length cA))] 0 [] _ rfl rfl hs0 ?_
  refine call_con [] (fun β w' hs => by
    have h := rFound_c w' A t cA (by omega) hc (hs.mem.take (js := [2]) rfl)
    rw [puts_found] at h
    exact h) ?_
  rintro v Fs ⟨A1, c1, rfl, rfl⟩
  have hfl := foundS_len t
  generalize foundS t = ns at hfl ⊢
  refine tri_know (p := 0 < ns.length → ∃ ad, A1 = some ad) (fun β w' hs h => by
    obtain ⟨ad, q, _⟩ := (row_rd (hs.get 0 rfl : (irowF A1 ns c1).p w')).2 h
    exact ⟨ad, q⟩) ?_
  intro hA1
  refine loop_rule (ι := Nat × RM) 0 (fun j => [(0, .c (.v (.pointer (some ⟨z.yb, 0, none⟩)))), (7, .c (.v (.slice A1 ns.length c1))), (8, .c (.v (.int .i64 (ns.length : Int)))), (9, .c (.v (.int .i64 (j.1 : Int))))]) (fun _ => []) (fun j => irowF A1 ns c1 :: rmFs j.2 ++ [bsF A t])
    (fun j => j.1 ≤ ns.length ∧ (∃ S l c, j.2 = { z with S := S, l := l, c := c }) ∧ j.2.l.length ≤ z.l.length + j.1) (fun j => ns.length - j.1) (0, z) ⟨Nat.zero_le _, ⟨z.S, z.l, z.c, rfl⟩, Nat.le_refl _⟩ (Ent.mk' ⟨rfl, rfl, rfl, rfl, trivial⟩ rfl (fun β w' hs => hs)) g ?_
  rintro ⟨i, _⟩ ⟨hi, ⟨S, l, c, rfl⟩, hll⟩
  simp only at hi hll
  refine BIf.dec (fun hlt => ?_) (fun hge => ?_)
  · have hlt0 : (i : Int) < (ns.length : Int) := hlt
    obtain ⟨x, hx, _⟩ := at_lt (show i < ns.length by omega)
    obtain ⟨ad, hA⟩ := hA1 (by omega)
    refine ⟨ad, i, hA, rfl, by omega, .int .i64 (x : Int), fun β w' hs => Rd.cell1 (show Rd 1 (some ad) ns.length (ints ns) w' from hA ▸ row_rd (hs.get 0 rfl)) (by simp [ints, hx]), ?_⟩
    refine ⟨.slice S l.length c, fun β w' hs => bk_cell (hs.get 1 rfl) (o := 2) rfl, ?_⟩
    refine call_con [2] (fun β w' hs => rput_c w' S l c x (by omega) (hs.mem.take (js := [2]) rfl)) ?_
    rintro v Fs ⟨S', c', rfl, rfl⟩
    have hpl := putL_len l x
    refine ⟨_, fun β w' hs => hs.bkSet 2 (o := 2) (us := [.slice S' (putL l x).length c']) rfl (by show 3 ≤ 3; decide) (one_mem rfl), ?_⟩
    refine ⟨((i + 1 : Nat) : Int), by rw [wrap_i64 (by omega) (by omega)]; rfl, ?_⟩
    exact ⟨(i + 1, { z with S := S', l := putL l x, c := c' }), ⟨by show i + 1 ≤ _; omega, ⟨_, _, _, rfl⟩, by show (putL l x).length ≤ z.l.length + (i + 1); omega⟩, by show ns.length - (i + 1) < ns.length - i; omega, Ent.mk' ⟨rfl, rfl, rfl, rfl, trivial⟩ rfl (fun β w' hs => hs.perm [1, 2, 0, 3])⟩
  · intro β w' hs
    exact hs.fin [1, 2] ⟨rfl, S, l, c, by omega, rfl⟩ rfl rfl rfl ⟨rfl, rfl, trivial⟩
def outL (F : Bx.Box → Lay → Fact) (r : List UInt8 × Bx.Box) (v : Value) (Fs : List Fact) : Prop :=
  ∃ A c y', v = .slice A r.1.length c ∧ r.1.length ≤ c ∧ c ≤ maxLen ∧ y'.ts.map (·.1) = r.2.L ∧ Fs = [browF ty_uint8 A r.1 c, F r.2 y']
theorem boxOut_L {b : Nat} {r : List UInt8 × Bx.Box} {v : Value} {Fs : List Fact} (h : r.1.length = 32) (k : boxOut b r v Fs) : outL (bxF b) r v Fs := by
  obtain ⟨A, c, y', rfl, h1, h2, h3, rfl⟩ := k
  exact ⟨A, c, y', by rw [h], by rw [h]; exact h1, h2, h3, rfl⟩
theorem rtagOut_L {b : Nat} {r : List UInt8 × Bx.Box} {v : Value} {Fs : List Fact} (h : r.1.length = 32) (k : rtagOut b r v Fs) : outL (rbxF b) r v Fs := by
  obtain ⟨A, c, y', rfl, h1, h2, h3, rfl⟩ := k
  exact ⟨A, c, y', by rw [h], by rw [h]; exact h1, h2, h3, rfl⟩
theorem one_part (A : Option Addr) (l : List UInt8) (c : Nat) : partsT [(A, l, c)] = l := by simp [partsT]
theorem hashL_c (w : World) (b : Nat) (B : Bx.Box) (y : Lay) (b0 : Nat) (A : Option Addr) (l : List UInt8) (c : Nat) (hts : y.ts.map (·.1) = B.L) (hi : BInv B) (hL : B.L.length < 4096) (hn : l.length ≤ 1000000) (hm : Mem w [bxF b B y, partF (some ⟨b0, 0, none⟩) [(A, l, c)], oddF 2, firstF 0]) :
    Con Tryz.prog n_box_Box_Hash #[ptrB b, .slice (some ⟨b0, 0, none⟩) 1 1] w [bxF b B y] (outL (bxF b) (hashB B l)) := by
  have k := hashP_c w b B y b0 [(A, l, c)] 1 hts (by omega) (by simp) (Nat.le_refl 1) (by show 1 ≤ 1000; decide) (by rw [one_part]; exact hn) hm
  rw [one_part] at k
  exact k.mono fun v Fs h => boxOut_L (hash_good hi hL hn).2.1 h
theorem macL_c (w : World) (b : Nat) (B : Bx.Box) (y : Lay) (K : Option Addr) (key : List UInt8) (cK : Nat) (b0 : Nat) (A : Option Addr) (l : List UInt8) (c : Nat) (hts : y.ts.map (·.1) = B.L) (hi : BInv B) (hL : B.L.length < 4096) (hk : key.length ≤ 1000000) (hn : l.length ≤ 1000000) (hm : Mem w [bxF b B y, partF (some ⟨b0, 0, none⟩) [(A, l, c)], bsF K key, oddF 2, firstF 0]) :
    Con Tryz.prog n_box_Box_Mac #[ptrB b, .slice K key.length cK, .slice (some ⟨b0, 0, none⟩) 1 1] w [bxF b B y] (outL (bxF b) (macB B key l)) := by
  have k := macP_c w b B y K key cK b0 [(A, l, c)] 1 hts (by omega) hk (by simp) (Nat.le_refl 1) (by show 1 ≤ 1000; decide) (by rw [one_part]; exact hn) hm
  rw [one_part] at k
  exact k.mono fun v Fs h => boxOut_L (mac_good hi hL hk hn).2.1 h
def strL (F : Bx.Box → Lay → Fact) (r : List UInt8 × Bx.Box) (v : Value) (Fs : List Fact) : Prop :=
  ∃ A c y', v = .tuple #[.slice A r.1.length c, .int .i64 0] ∧ r.1.length ≤ c ∧ c ≤ maxLen ∧ y'.ts.map (·.1) = r.2.L ∧ Fs = [browF ty_uint8 A r.1 c, F r.2 y']
theorem strL_c (w : World) (b : Nat) (B : Bx.Box) (y : Lay) (K S : Option Addr) (p s : List UInt8) (cK cS : Nat) (r : Int) (hr : 1 ≤ r ∧ r ≤ 64) (hts : y.ts.map (·.1) = B.L) (hi : BInv B) (hL : B.L.length < 4096) (hk : p.length ≤ 1000000) (hn : s.length ≤ 100000) (hm : Mem w [bxF b B y, bsF K p, bsF S s, oddF 2, firstF 0]) :
    Con Tryz.prog n_box_Box_Stretch #[ptrB b, .slice K p.length cK, .slice S s.length cS, .int .i64 r] w [bxF b B y] (strL (bxF b) (strB B p s r.toNat)) := by
  refine (strP_c w b B y K S p s cK cS r hts (by omega) hk hn hm).mono fun v Fs h => ?_
  unfold strOut at h
  rw [if_pos hr] at h
  obtain ⟨A, c, y', rfl, h1, h2, h3, rfl⟩ := h
  have e := (str_good (r := r.toNat) hi hL hk (by omega : s.length ≤ 1000000) (by omega)).2.1
  exact ⟨A, c, y', by rw [e], by rw [e]; exact h1, h2, h3, rfl⟩
theorem rhashL_c (w : World) (b : Nat) (B : Bx.Box) (y : Lay) (P : Option Addr) (text : List UInt8) (cP : Nat) (hts : y.ts.map (·.1) = B.L) (hi : BInv B) (hL : B.L.length < 4096) (hn : text.length ≤ 1000000) (hm : Mem w [rbxF b B y, bsF P text, oddF 3]) :
    Con Tryz.prog n_ostiaryref05_Hash #[ptrB b, .slice P text.length cP] w [rbxF b B y] (outL (rbxF b) (hashB B text)) :=
  (rhash_c w b B y P text cP hts (by omega) hi.sz hn hm).mono fun v Fs h => rtagOut_L (hash_good hi hL hn).2.1 h
theorem rmacL_c (w : World) (b : Nat) (B : Bx.Box) (y : Lay) (K P : Option Addr) (key text : List UInt8) (cK cP : Nat) (hts : y.ts.map (·.1) = B.L) (hi : BInv B) (hL : B.L.length < 4096) (hk : key.length ≤ 1000000) (hn : text.length ≤ 1000000) (hm : Mem w [rbxF b B y, bsF K key, bsF P text, oddF 3]) :
    Con Tryz.prog n_ostiaryref05_Mac #[ptrB b, .slice K key.length cK, .slice P text.length cP] w [rbxF b B y] (outL (rbxF b) (macB B key text)) :=
  (rmac_c w b B y K P key text cK cP hts (by omega) hi.sz hk hn hm).mono fun v Fs h => rtagOut_L (mac_good hi hL hk hn).2.1 h
theorem rstrL_c (w : World) (b : Nat) (B : Bx.Box) (y : Lay) (K P : Option Addr) (key text : List UInt8) (cK cP : Nat) (r : Int) (hr : 1 ≤ r ∧ r ≤ 64) (hts : y.ts.map (·.1) = B.L) (hi : BInv B) (hL : B.L.length < 4096) (hk : key.length ≤ 1000000) (hn : text.length ≤ 100000) (hm : Mem w [rbxF b B y, bsF K key, bsF P text, oddF 3]) :
    Con Tryz.prog n_ostiaryref05_Stretch #[ptrB b, .slice K key.length cK, .slice P text.length cP, .int .i64 r] w [rbxF b B y] (outL (rbxF b) (strB B key text r.toNat)) := by
  refine (rstr_c w b B y K P key text cK cP r hts (by omega) hi.sz hk hn hm).mono fun v Fs h => ?_
  unfold rstrOut at h
  rw [if_pos hr] at h
  exact rtagOut_L (str_good (r := r.toNat) hi hL hk (by omega : text.length ≤ 1000000) (by omega)).2.1 h
def tK : Bx.Term := macT [107] [97]
def BK : Bx.Box := ⟨true, false, [tA, tK]⟩
theorem hash_a : hashB B0 [97] = (Bx.handle 1, B1) := tag_A
theorem mac_ka : macB B1 [107] [97] = (Bx.handle 2, BK) := tag_new (B := B1) (t := tK) (place_not (by simp [B1, tA, tK, hashT, macT])) (by decide)
theorem inv0 : BInv B0 := ⟨fun t h => (by cases h), List.nodup_nil, fun t h => (by cases h), fun _ => rfl, by decide⟩
theorem inv1 : BInv B1 := by have h := (hash_good inv0 (t := [97]) (by decide) (by decide)).1.inv; rw [hash_a] at h; exact h
theorem invK : BInv BK := by have h := (mac_good inv1 (k := [107]) (t := [97]) (by decide) (by decide) (by decide)).1.inv; rw [mac_ka] at h; exact h
def ndsK : List Nd := [⟨[], false, false⟩, ⟨[], true, false⟩, ⟨[], false, false⟩]
theorem nds_k : ndL [[107]] BK.L = ndsK := by
  have e1 : ndT [[107]] tA = ⟨[], true, false⟩ := by
    unfold ndT
    rw [if_neg (by decide), show tA.key = [] from rfl, show tA.text = [97] from rfl, foundS_short (by decide), foundS_short (by decide), between_short (by decide), between_short (by decide)]
    have h1 : plainB [[107]] [] = true := by decide +kernel
    have h2 : plainB [[107]] [97] = true := by decide +kernel
    rw [h1, h2]
    rfl
  have e2 : ndT [[107]] tK = ⟨[], false, false⟩ := by
    unfold ndT
    rw [if_neg (by decide), show tK.key = [107] from rfl, show tK.text = [97] from rfl, foundS_short (by decide), foundS_short (by decide), between_short (by decide)]
    have h1 : plainB [[107]] [107] = false := by decide +kernel
    rw [h1]
    rfl
  show ⟨[], false, false⟩ :: [ndT [[107]] tA, ndT [[107]] tK] = _
  rw [e1, e2]
  rfl
theorem least_1 {I R : List Bool} (h : Least ndsK I R) : markB R (1 : Int) = true := by
  have h1 := (h.1.2 1 ⟨[], true, false⟩ rfl (by decide)).1 rfl (by unfold haveB; rfl)
  exact h1
theorem least_2 {R : List Bool} (h : Least ndsK (marksOf 3 []) R) : markB R (2 : Int) = false := by
  have hC : Closed ndsK [false, true, false] := by
    refine ⟨rfl, fun n d hd h0 => ?_⟩
    match n, hd, h0 with
    | 0, _, h0 => exact absurd h0 (by decide)
    | 1, hd, _ => cases hd; exact ⟨fun _ _ => rfl, fun q => (by cases q)⟩
    | 2, hd, _ => cases hd; exact ⟨fun q => (by cases q), fun q => (by cases q)⟩
    | n + 3, hd, _ => cases hd
  have hle : Le (marksOf 3 []) [false, true, false] := ⟨rfl, fun n q => by have := (marksOf_iff.1 q).2; cases this⟩
  have hr := (h.2.2 _ hC hle).2 2
  cases hm : markB R (2 : Int) with
  | false => rfl
  | true => exact absurd (hr hm) (by unfold IsM; decide)
theorem least_3 {s : List Nat} {R : List Bool} (h : Least ndsK (marksOf 3 s) R) (hs : 2 ∈ s) : markB R (2 : Int) = true := h.2.1.2 2 (marksOf_iff.2 ⟨by decide, hs⟩)
theorem tsz_K : ∀ t ∈ BK.L, t.key.length ≤ 70000 ∧ t.text.length ≤ 70000 := by
  intro t ht
  have : t = tA ∨ t = tK := by simpa [BK] using ht
  rcases this with rfl | rfl <;> exact ⟨by decide, by decide⟩
theorem awake28_c (w : World) (hm : Mem w [mlF, oddF 2, firstF 0]) : Con Tryz.prog n_ostiarylaw28_awake #[] w [] fun v Fs => v = .bool true ∧ Fs = [] := by
  have g := good_ostiarylaw28_awake w (Un [])
  have hs0 : Sat (cx_ostiarylaw28_awake w (Un [])) Va.z 0 [] [mlF, oddF 2, firstF 0] w := hm.sat0 rfl (fun f hf ho k hk => by
    simp only [List.mem_cons, List.not_mem_nil, or_false] at hf
    rcases hf with rfl | rfl | rfl <;> cases ho)
  refine con_of_sx (cx := cx_ostiarylaw28_awake w (Un [])) g b_ostiarylaw28_awake rfl rfl (β := Va.z) [] 0 [] _ rfl rfl hs0 ?_
  refine call_con [] (fun β w' hs => newX_c w' true) ?_
  rintro v Fs ⟨b, y0, rfl, hy0, rfl⟩
  intro b1
  refine ⟨0, _, rfl, ?_⟩
  intro b2
  refine call_con [2] (R := outL (bxF b) (hashB B0 [97])) (fun β w' hs => by
    have h2 := (hs.rowRd 0 rfl).part1 (l := [97]) [0, 1] rfl
    exact hashL_c w' b B0 y0 b2 (some ⟨b1, 0, none⟩) [97] 1 (by rw [hy0]; rfl) inv0 (by decide) (by decide) (h2.mem.take (js := [3, 0, 5, 6]) rfl)) ?_
  rw [hash_a]
  rintro v Fs ⟨A1, c1, y1, rfl, p1, p2, hy1, rfl⟩
  intro b3
  refine ⟨0, _, rfl, ?_⟩
  intro b4
  refine ⟨0, _, rfl, ?_⟩
  intro b5
  refine call_con [4] (R := outL (bxF b) (macB B1 [107] [97])) (fun β w' hs => by
    have h2 := (hs.rowRd 0 rfl).part1 (l := [97]) [0, 1] rfl
    exact macL_c w' b B1 y1 (some ⟨b3, 0, none⟩) [107] 1 b5 (some ⟨b4, 0, none⟩) [97] 1 hy1 inv1 (by decide) (by decide) (by decide) (h2.mem.take (js := [5, 0, 3, 9, 10]) rfl)) ?_
  rw [mac_ka]
  rintro v Fs ⟨A2, c2, y2, rfl, p3, p4, hy2, rfl⟩
  intro b6
  refine ⟨0, _, rfl, ?_⟩
  intro b7
  refine call_con [3] (R := fun v Fs => ∃ x : Md, v = .tuple #[.pointer (some ⟨x.b, 0, none⟩), .int .i64 0] ∧ x.bx = b ∧ x.ss = [[107]] ∧ x.seen = [] ∧ Fs = mdFs x ++ [bxF b BK y2]) (fun β w' hs => by
    have h2 := (hs.rowRd 0 rfl).part1 (l := [107]) [0, 1] rfl
    exact knowsNew_c w' b BK y2 (some ⟨b7, 0, none⟩) [(some ⟨b6, 0, none⟩, [107], 1)] 1 rfl (by show 1 ≤ 1000; decide) (fun q hq => by obtain rfl := List.mem_singleton.1 hq; exact ⟨by show 1 ≤ 1000; decide, Nat.le_refl 1⟩) (h2.mem.take (js := [4, 0]) rfl)) ?_
  rintro v Fs ⟨x, rfl, rfl, hss, hsn, rfl⟩
  have hpl : x.ps.length ≤ 1000000 := by
    have := congrArg List.length hss
    unfold Md.ss at this
    rw [List.length_map] at this
    rw [this]
    decide
  have hsl : ∀ s ∈ x.ss, s.length ≤ 1000000 := fun s h => by rw [hss] at h; obtain rfl := List.mem_singleton.1 h; decide
  have hnd : ndL x.ss BK.L = ndsK := by rw [hss]; exact nds_k
  refine call_con [0, 1, 2, 3] (R := fun v Fs => v = .bool true ∧ Fs = mdFs x ++ [bxF x.bx BK y2]) (hown := ⟨rfl, rfl, rfl, rfl, trivial⟩) (fun β w' hs => (made_c w' x BK y2 1 hy2 (by decide) invK.sz tsz_K hsl hpl (hs.mem.take (js := [0, 1, 2, 3, 13]) rfl)).mono fun v Fs ⟨R, hR, e1, e2⟩ => ⟨by rw [hnd] at hR; rw [e1, least_1 hR], e2⟩) ?_
  rintro v Fs ⟨rfl, rfl⟩
  refine call_con [0, 1, 2, 3] (R := fun v Fs => v = .bool false ∧ Fs = mdFs x ++ [bxF x.bx BK y2]) (hown := ⟨rfl, rfl, rfl, rfl, trivial⟩) (fun β w' hs => (made_c w' x BK y2 2 hy2 (by decide) invK.sz tsz_K hsl hpl (hs.mem.take (js := [0, 1, 2, 3, 13]) rfl)).mono fun v Fs ⟨R, hR, e1, e2⟩ => ⟨by rw [hnd, hsn] at hR; rw [e1, least_2 hR], e2⟩) ?_
  rintro v Fs ⟨rfl, rfl⟩
  refine call_con [] (fun β w' hs => handle_c w' 2) ?_
  rintro v Fs ⟨A3, c3, rfl, p5, p6, rfl⟩
  refine call_con [1, 2, 3] (R := fun v Fs => v = .tuple #[] ∧ Fs = mdFs { x with seen := (foundS (Bx.handle 2)).foldl setPut x.seen }) (hown := ⟨rfl, rfl, rfl, trivial⟩) (fun β w' hs => by
    have h2 := hs.rdRow 0 rfl
    have h3 := See_c w' x A3 (Bx.handle 2) c3 (by rw [Bx.handle_len]; decide) (by rw [Bx.handle_len]; exact p5) (h2.mem.take (js := [1, 2, 3, 0]) rfl)
    rw [Bx.handle_len] at h3
    exact h3) ?_
  rintro v Fs ⟨rfl, rfl⟩
  obtain ⟨x2, hx2⟩ : ∃ x2 : Md, x2 = { x with seen := (foundS (Bx.handle 2)).foldl setPut x.seen } := ⟨_, rfl⟩
  have e1 : x2.b = x.b := by rw [hx2]
  have e2 : x2.bx = x.bx := by rw [hx2]
  have e3 : x2.ss = x.ss := by rw [hx2]; rfl
  have e4 : x2.ps = x.ps := by rw [hx2]
  have e5 : 2 ∈ x2.seen := by rw [hx2]; exact mem_setPuts.2 (.inr (found_handle (by decide) (by decide)))
  rw [← hx2]
  clear hx2
  rw [← e2, ← e1]
  refine call_con [0, 1, 2, 4] (R := fun v Fs => v = .bool true ∧ Fs = mdFs x2 ++ [bxF x2.bx BK y2]) (hown := ⟨rfl, rfl, rfl, rfl, trivial⟩) (fun β w' hs => (made_c w' x2 BK y2 2 hy2 (by decide) invK.sz tsz_K (by rw [e3]; exact hsl) (by rw [e4]; exact hpl) (hs.mem.take (js := [0, 1, 2, 4, 14]) rfl)).mono fun v Fs ⟨R, hR, e1, e2⟩ => ⟨by rw [e3, hnd] at hR; rw [e1, least_3 hR e5], e2⟩) ?_
  rintro v Fs ⟨rfl, rfl⟩
  intro β w' hs
  exact hs.fin [] ⟨rfl, rfl⟩
theorem between_no (p : List UInt8) : betweenB [] p = true := by
  unfold betweenB
  rw [List.all_eq_true]
  intro q _
  rfl
theorem nds_len (ss : List (List UInt8)) (L : List Bx.Term) : (ndL ss L).length = L.length + 1 := by simp [ndL]
theorem nds_at (ss : List (List UInt8)) (L : List Bx.Term) (i : Nat) : (ndL ss L)[i + 1]? = (L[i]?).map (ndT ss) := by
  unfold ndL
  rw [List.getElem?_cons_succ, List.getElem?_map]
structure OpK where
  d : UInt8
  p : Int
  q : Int
  K : Option Addr
  key : List UInt8
  cK : Nat
  X : Option Addr
  text : List UInt8
  cX : Nat
  own : Bool
def OpK.cells (o : OpK) : List Value := [.int .u8 o.d.toNat, .int .i64 o.p, .int .i64 o.q, .slice o.K o.key.length o.cK, .slice o.X o.text.length o.cX, .bool o.own]
def OpK.sl (o : OpK) : List SL := o.cells.map SL.v
def OpK.ok (w : World) (o : OpK) : Prop := (Bs w o.K o.key ∧ o.key.length ≤ o.cK) ∧ (Bs w o.X o.text ∧ o.text.length ≤ o.cX)
def pkN (n : Nat) (x : Int) : Nat := 1 + ((x.tmod n + n).tmod n).toNat
theorem tmod_lo {x : Int} {n : Nat} (h : 0 < n) : -(n : Int) < x.tmod n ∧ x.tmod n < n := by
  have h1 : (x.tmod n).natAbs < n := by
    rw [Int.natAbs_tmod, Int.natAbs_natCast]
    exact Nat.mod_lt _ h
  omega
theorem tmod_hi {x : Int} {n : Nat} (h : 0 < n) : 0 ≤ (x.tmod n + n).tmod n ∧ (x.tmod n + n).tmod n < n := by
  have h1 := tmod_lo (x := x) h
  have h2 := tmod_lo (x := x.tmod n + n) h
  exact ⟨Int.tmod_nonneg _ (by omega), h2.2⟩
theorem pk_le {n : Nat} {x : Int} (h : 0 < n) : pkN n x ≤ n := by
  have := tmod_hi (x := x) h
  unfold pkN
  omega
theorem pk_eq {n : Nat} {x : Int} (h : 0 < n) : 1 + (x.tmod n + n).tmod n = (pkN n x : Int) := by
  have := tmod_hi (x := x) h
  unfold pkN
  omega
def numK (B : Bx.Box) : Nat := max B.L.length 1
def hanP (B : Bx.Box) (o : OpK) : List UInt8 := Bx.handle (pkN (numK B) o.p)
def hanQ (B : Bx.Box) (o : OpK) : List UInt8 := Bx.handle (pkN (numK B) o.q)
def opKey (B : Bx.Box) (o : OpK) : List UInt8 := if o.own = true ∧ 0 < B.L.length then o.key.take 20 ++ hanP B o else o.key.take 20
def opText (B : Bx.Box) (o : OpK) : List UInt8 := if o.own = true ∧ 0 < B.L.length then o.text.take 20 ++ hanQ B o else o.text.take 20
noncomputable def stepK (B : Bx.Box) (o : OpK) (k t : List UInt8) : Bx.Box :=
  if o.d.toNat % 6 = 0 then (hashB B t).2
  else if o.d.toNat % 6 = 1 ∨ o.d.toNat % 6 = 2 then (macB B k t).2
  else if o.d.toNat % 6 = 3 then (strB B k t 1).2
  else if 0 < B.L.length then (turnB B (hanP B o) (hanQ B o)).2 else B
noncomputable def stepB (B : Bx.Box) (o : OpK) : Bx.Box := stepK B o (opKey B o) (opText B o)
noncomputable def runB (ops : List OpK) : Bx.Box := (ops.take 14).foldl stepB ⟨true, false, []⟩
structure RI (B : Bx.Box) (k : Nat) : Prop where
  inv : BInv B
  sym : B.sym = true
  len : B.L.length ≤ k
  sz : ∀ t ∈ B.L, t.key.length ≤ 52 ∧ t.text.length ≤ 52
theorem opKey_len (B : Bx.Box) (o : OpK) : (opKey B o).length ≤ 52 := by
  unfold opKey hanP
  split
  · rw [List.length_append, List.length_take, Bx.handle_len]; omega
  · rw [List.length_take]; omega
theorem opText_len (B : Bx.Box) (o : OpK) : (opText B o).length ≤ 52 := by
  unfold opText hanQ
  split
  · rw [List.length_append, List.length_take, Bx.handle_len]; omega
  · rw [List.length_take]; omega
theorem tag_mem {B : Bx.Box} {t u : Bx.Term} (h : u ∈ (B.tag t).2.L) : u ∈ B.L ∨ u = t := by
  unfold Bx.Box.tag at h
  cases hp : Bx.place t B.L with
  | some i => rw [hp] at h; exact .inl h
  | none =>
    rw [hp] at h
    simp only at h
    split at h
    · exact .inl h
    · rcases List.mem_append.1 h with h | h
      · exact .inl h
      · exact .inr (List.mem_singleton.1 h)
theorem turn_mem {B : Bx.Box} {s t : List UInt8} {u : Bx.Term} (h : u ∈ (turnB B s t).2.L) : u ∈ B.L ∨ (u.key = [] ∧ u.text = []) := by
  unfold turnB at h
  split at h
  · split at h
    · exact .inl h
    · split at h
      · exact .inl h
      · rcases tag_mem h with h | h
        · exact .inl h
        · exact .inr (by rw [h]; exact ⟨rfl, rfl⟩)
  · exact .inl h
theorem RI.next {B : Bx.Box} {k : Nat} (h : RI B k) {B' : Bx.Box} (he : Ext B B') (hm : ∀ u ∈ B'.L, u ∈ B.L ∨ (u.key.length ≤ 52 ∧ u.text.length ≤ 52)) : RI B' (k + 1) :=
  ⟨he.inv, he.sym.trans h.sym, by have := he.len; have := h.len; omega, fun u hu => (hm u hu).elim (h.sz u) id⟩
theorem RI.up {B : Bx.Box} {k : Nat} (h : RI B k) : RI B (k + 1) := ⟨h.inv, h.sym, by have := h.len; omega, h.sz⟩
theorem step_ri {B : Bx.Box} {k : Nat} (h : RI B k) (hk : k < 4000) (o : OpK) {key t : List UInt8} (h1 : key.length ≤ 52) (h2 : t.length ≤ 52) : RI (stepK B o key t) (k + 1) := by
  have hl := h.len
  unfold stepK
  split
  · refine h.next (hash_good h.inv (by omega) (t := t) (by omega)).1 fun u hu => ?_
    rw [show hashB B t = B.tag (hashT t) by unfold hashB; rw [h.sym]; rfl] at hu
    exact (tag_mem hu).imp id fun e => by rw [e]; exact ⟨Nat.zero_le _, h2⟩
  · split
    · refine h.next (mac_good h.inv (by omega) (k := key) (t := t) (by omega) (by omega)).1 fun u hu => ?_
      rw [show macB B key t = B.tag (macT key t) by unfold macB; rw [h.sym]; rfl] at hu
      exact (tag_mem hu).imp id fun e => by rw [e]; exact ⟨h1, h2⟩
    · split
      · refine h.next (str_good h.inv (by omega) (k := key) (t := t) (r := 1) (by omega) (by omega) (by decide)).1 fun u hu => ?_
        rw [show strB B key t 1 = B.tag (strT key t 1) by unfold strB; rw [h.sym]; rfl] at hu
        exact (tag_mem hu).imp id fun e => by rw [e]; exact ⟨h1, h2⟩
      · split
        · rcases turn_cases h.inv (B := B) (by omega) (hanP B o) (hanQ B o) with e | ⟨x, B', e, hg⟩
          · rw [e]
            exact h.up
          · have hB : (turnB B (hanP B o) (hanQ B o)).2 = B' := by rw [e]
            rw [hB]
            refine h.next hg.1 fun u hu => ?_
            rw [← hB] at hu
            exact (turn_mem hu).imp id fun q => by rw [q.1, q.2]; exact ⟨Nat.zero_le _, Nat.zero_le _⟩
        · exact h.up
theorem ri0 : RI ⟨true, false, []⟩ 0 := ⟨inv0, rfl, Nat.le_refl _, fun _ h => (by cases h)⟩
theorem closed_few {ss : List (List UInt8)} {L : List Bx.Term} {C : List Bool} (h : Closed (ndL [] L) C) : Closed (ndL ss L) C := by
  refine ⟨by rw [h.1, nds_len, nds_len], fun n d hd hn => ?_⟩
  obtain ⟨i, rfl⟩ : ∃ i, n = i + 1 := ⟨n - 1, by omega⟩
  rw [nds_at] at hd
  cases ht : L[i]? with
  | none => rw [ht] at hd; cases hd
  | some t =>
    rw [ht] at hd
    obtain rfl := Option.some.inj hd
    have h2 := h.2 (i + 1) (ndT [] t) (by rw [nds_at, ht]; rfl) hn
    unfold ndT at h2 ⊢
    by_cases h4 : t.kind = 4
    · rw [if_pos h4] at h2 ⊢
      exact h2
    · rw [if_neg h4] at h2 ⊢
      refine ⟨fun _ hv => h2.1 ?_ hv, fun q => by cases q⟩
      show (betweenB [] t.key && betweenB [] t.text) = true
      rw [between_no, between_no]
      rfl
theorem least_few {ss : List (List UInt8)} {L : List Bx.Term} {I R S : List Bool} (h : Least (ndL ss L) I R) (h2 : Least (ndL [] L) I S) : Le R S := h.2.2 S (closed_few h2.1) h2.2.1
theorem least_more {nds : List Nd} {N : Nat} {a b : List Nat} {R S : List Bool} (hs : ∀ n ∈ a, n ∈ b) (h : Least nds (marksOf N a) R) (h2 : Least nds (marksOf N b) S) : Le R S := by
  refine h.2.2 S h2.1 (Le.trans ⟨by rw [marksOf_len, marksOf_len], fun n q => ?_⟩ h2.2.1)
  obtain ⟨q1, q2⟩ := marksOf_iff.1 q
  exact marksOf_iff.2 ⟨q1, hs n q2⟩
def onesN (R : List Bool) (i : Nat) : List Nat := (List.range i).filter fun n => markB R (n : Int)
def ones (R : List Bool) : List Nat := onesN R R.length
theorem mem_ones {R : List Bool} {n : Nat} : n ∈ ones R ↔ IsM R n := by
  unfold ones onesN
  rw [List.mem_filter, List.mem_range]
  exact ⟨fun h => h.2, fun h => ⟨isM_lt h, h⟩⟩
theorem ones_succ (R : List Bool) (i : Nat) : onesN R (i + 1) = if markB R (i : Int) = true then onesN R i ++ [i] else onesN R i := by
  unfold onesN
  rw [List.range_succ, List.filter_append]
  by_cases h : markB R (i : Int) = true
  · rw [if_pos h, List.filter_cons_of_pos (p := fun n : Nat => markB R (n : Int)) h]; rfl
  · rw [if_neg h, List.filter_cons_of_neg (p := fun n : Nat => markB R (n : Int)) h]; simp
theorem onesN_len (R : List Bool) (i : Nat) : (onesN R i).length ≤ i := by
  have := List.length_filter_le (fun n : Nat => markB R (n : Int)) (List.range i)
  rw [List.length_range] at this
  exact this
theorem mark_at {R : List Bool} {i : Nat} {b : Bool} (h : R[i]? = some b) : markB R (i : Int) = b := by
  rw [markB_nat, List.getD_eq_getElem?_getD, h]
  rfl
end Go.Proofs.YtoifclfanabalaaGreatDoor.Sx

namespace Go.Proofs.YtoifclfanabalaaGreatDoor.Sx
open Go
section
variable {cx : Cx} {n : Nat} {H : List Bk} {F : List Fact} {env : Env}
theorem tri_block {id : Nat} {c : Code} {Q : Exit → KT} (h : Tri cx c (inBlock id Q) n env H F) : Tri cx (.block id c) Q n env H F := by
  refine ⟨fun β a w hi => wpIn_block (wpIn_mono (h.run β a w hi) fun e a w hq => ?_)⟩
  cases e with
  | normal => exact hq
  | exit i =>
    obtain ⟨β', n', env', H', F', h', hq'⟩ := hq
    simp only [inBlock] at hq'
    simp only [Exit.inBlock]
    cases hb : Nat.beq i id with
    | true => rw [hb] at hq'; rw [if_pos (Nat.eq_of_beq_eq_true hb)]; exact ⟨β', n', env', H', F', h', hq'⟩
    | false =>
      rw [hb] at hq'
      rw [if_neg (fun q => by subst q; rw [Nat.beq_refl] at hb; cases hb)]
      exact ⟨β', n', env', H', F', h', hq'⟩
  | goto l => exact hq
  | ret => exact hq
  | panic c => exact hq
  | outgrown => exact hq
theorem loop_ruleT {c : Code} {Q : Exit → KT} {ι : Type} (n' : Nat) (E : ι → Env) (HH : ι → List Bk) (FF : ι → List Fact) (pre : ι → Prop) (μ : ι → Nat) (i0 : ι) (h0 : pre i0) (he : Ent cx n env H F n' (E i0) (HH i0) (FF i0))
    (round : ∀ i, pre i → Tri cx c (andThen (fun m env H F => ∃ j, pre j ∧ μ j < μ i ∧ Ent cx m env H F n' (E j) (HH j) (FF j)) Q) n' (E i) (HH i) (FF i)) : Tri cx (.loop c) Q n env H F := by
  refine ⟨fun β a w h => ?_⟩
  obtain ⟨β', _, _, h'⟩ := he.run β a w h
  intro b k cs hro hb hr
  have key : ∀ (m : Nat) (i : ι), μ i = m → pre i → ∀ β a w, Inv cx β n' (E i) (HH i) (FF i) a w →
      ∃ e a' w', Post cx Q e a' w' ∧ ArrivesIn (Machine.fenced cx.P cx.fence) cx.P (lone (b.atR a (.code c :: .inLoop c :: k)) cs w) b k cs e a' w' := by
    intro m
    induction m using Nat.strongRecOn with
    | _ m ih =>
      intro i hm hpre β a w h
      have hr' := (round i hpre).run β a w h
      obtain ⟨e, a₁, w₁, hq, harr⟩ := hr' b (.inLoop c :: k) cs hro hb hr
      cases e with
      | normal =>
        obtain ⟨β', n1, env1, H1, F1, h1, j, hpj, hlt, hent⟩ := hq
        obtain ⟨β2, _, _, h2⟩ := hent.run β' a₁ w₁ h1
        obtain ⟨e₂, a₂, w₂, hq₂, harr₂⟩ := ih (μ j) (hm ▸ hlt) j rfl hpj β2 a₁ w₁ h2
        exact ⟨e₂, a₂, w₂, hq₂, .of_steps (StepsIn.trans harr (.one (fenced_calm hb hr rfl) stepR_inLoop)) harr₂⟩
      | exit id => exact ⟨.exit id, a₁, w₁, hq, .pass (x := .inLoop c) rfl (fun _ _ => .inl (by simp)) harr⟩
      | goto l => exact ⟨.goto l, a₁, w₁, hq, .pass (x := .inLoop c) rfl (fun _ _ => .inl (by simp)) harr⟩
      | ret => exact ⟨.ret, a₁, w₁, hq, .pass (x := .inLoop c) rfl (fun _ _ => .inl (by simp)) harr⟩
      | panic ch => exact hq.elim
      | outgrown => exact hq.elim
  obtain ⟨e, a', w', hq, harr⟩ := key _ i0 rfl h0 β' a w h'
  exact ⟨e, a', w', hq, .of_steps (.one (fenced_calm hb hr rfl) stepR_loop) harr⟩
theorem tri_seqJT {ι : Type} {c1 c2 : Code} {Q : Exit → KT} (T : ι → Prop) (n' : Nat) (E : ι → Env) (HH : ι → List Bk) (FF : ι → List Fact) (hkey : ∀ i, T i → Tri cx c2 Q n' (E i) (HH i) (FF i))
    (h : Tri cx c1 (andThen (fun n env H F => EntX cx n env H F T n' E HH FF) Q) n env H F) : Tri cx (.seq c1 c2) Q n env H F := by
  refine ⟨fun β a w hi => wpIn_seq (wpIn_mono (h.run β a w hi) fun e a w hq => ?_)⟩
  cases e with
  | normal =>
    obtain ⟨β', n', env', H', F', h', hq'⟩ := hq
    exact (tri_join T _ E HH FF hkey hq').run β' a w h'
  | exit i => exact hq
  | goto l => exact hq
  | ret => exact hq
  | panic c => exact hq
  | outgrown => exact hq
end
end Go.Proofs.YtoifclfanabalaaGreatDoor.Sx

namespace Go.Proofs.YtoifclfanabalaaGreatDoor.Sx
open Go
attribute [local irreducible] Calls
theorem Sat.fromOld {cx : Cx} {β : Va} {n : Nat} {H : List Bk} {F : List Fact} {W w : World} (h : Sat cx β n H F w) (j : Nat) (hj : nth F j = some (oldF W)) (f : Fact) (hfo : f.own = false) (hp : f.p W) (hlt : ∀ k, f.D k → k < W.heap.size) : Sat cx β n H (f :: F) w :=
  h.sub j hj rfl f hfo (f.st W w (fun k hk => (h.get j hj : (oldF W).p w) k (hlt k hk)) hp) hlt
structure KL where
  k : Nat
  B : Bx.Box
  y : Lay
  z : Lay
structure KL.Ok (i : KL) (ops : List OpK) : Prop where
  k : i.k ≤ ops.length
  k14 : i.k ≤ 14
  B : i.B = (ops.take i.k).foldl stepB ⟨true, false, []⟩
  ri : RI i.B i.k
  y : i.y.ts.map (·.1) = i.B.L
  z : i.z.ts.map (·.1) = i.B.L
theorem opKRd {w : World} {ad : Addr} {ops : List OpK} (h : Rd 6 (some ad) ops.length (ops.flatMap OpK.cells) w) {k : Nat} {o : OpK} (ho : ops[k]? = some o) : ∀ j u, o.cells[j]? = some u → w.cell? ((ad.add (k * 6)).add j) = some u := by
  obtain ⟨hil, hie⟩ := List.getElem?_eq_some_iff.1 ho
  have h2 := Rd.elem (f := OpK.cells) (fun _ => rfl) h rfl hil
  rw [hie] at h2
  exact h2
theorem KL.Ok.next {i : KL} {ops : List OpK} (h : i.Ok ops) {o : OpK} (ho : ops[i.k]? = some o) (h14 : i.k < 14) {B' : Bx.Box} (hB : B' = stepB i.B o) {y z : Lay} (hy : y.ts.map (·.1) = B'.L) (hz : z.ts.map (·.1) = B'.L) : (KL.mk (i.k + 1) B' y z).Ok ops := by
  have hk := (List.getElem?_eq_some_iff.1 ho).1
  refine ⟨hk, by show i.k + 1 ≤ 14; omega, ?_, ?_, hy, hz⟩
  · show B' = (ops.take (i.k + 1)).foldl stepB _
    rw [List.take_add_one, ho, List.foldl_append, ← h.B, hB]
    rfl
  · show RI B' (i.k + 1)
    rw [hB]
    exact step_ri h.ri (by omega) o (opKey_len i.B o) (opText_len i.B o)
theorem KL.Ok.start {ops : List OpK} {y0 : Lay} (h : y0.ts = []) : (KL.mk 0 ⟨true, false, []⟩ y0 ⟨none, 0, 0, []⟩).Ok ops := ⟨Nat.zero_le _, Nat.zero_le _, by simp, ri0, by show y0.ts.map _ = []; rw [h]; rfl, rfl⟩
theorem build_c (w : World) (A : Option Addr) (c : Nat) (ops : List OpK) (hA : Rd 6 A ops.length (ops.flatMap OpK.cells) w) (hin : ∀ o ∈ ops, o.ok w) (hn : ops.length ≤ 9223372036854775807)
    (h1 : (oddF 2).p w) (h0 : (firstF 0).p w) (h2 : (oddF 3).p w) :
    Con Tryz.prog n_ostiarylaw28_build #[.slice A ops.length c] w [] fun v Fs => ∃ b rb y z, v = .tuple #[ptrB b, ptrB rb] ∧ RI (runB ops) 14 ∧ y.ts.map (·.1) = (runB ops).L ∧ z.ts.map (·.1) = (runB ops).L ∧ Fs = [bxF b (runB ops) y, rbxF rb (runB ops) z] := by
  have g := good_ostiarylaw28_build w (Un [])
  have hml := maxLen_eq
  refine con_of_tri (cx := cx_ostiarylaw28_build w (Un [])) g b_ostiarylaw28_build rfl rfl (β := Va.z) [.c (.v (.slice A ops.length c))] 0 [] [oldF w] rfl rfl (old_sat rfl) ?_
  refine tri_seq g ?_
  refine tri_seq g ?_
  refine call_con [] (fun β w' hs => newX_c w' true) ?_
  rintro v Fs ⟨b, y0, rfl, hy0, rfl⟩
  refine reify_tri 0 (fun _ => [.bool true, .slice none 0 0, .bool false]) rfl rfl (fun _ => rfl) (fun rb => ?_)
  have hstart : ∀ {β : Va} {n : Nat} {H : List Bk} {w' : World}, Sat (cx_ostiarylaw28_build w (Un [])) β n H [bkF rb ty_ostiaryref05_Box [.bool true, .slice none 0 0, .bool false], bxF b ⟨true, false, []⟩ y0, oldF w] w' → Sat (cx_ostiarylaw28_build w (Un [])) β n H [bxF b ⟨true, false, []⟩ y0, rbxF rb ⟨true, false, []⟩ ⟨none, 0, 0, []⟩, oldF w] w' := fun hs =>
    ((((hs.nilRow ty_ostiaryref05_Term 6).noMem (partsF []) (fun _ h => (by cases h)) (fun k hk => by obtain ⟨p, hp, _⟩ := hk; cases hp)).sep [2, 1, 0] rfl ⟨rfl, rfl, rfl, trivial⟩).perm [1, 0, 2])
  refine tri_seqJT (ι := KL) (fun j => j.Ok ops ∧ j.B = runB ops) 0 (fun _ => [(4, .c (.v (ptrB b))), (5, .c (.v (ptrB rb)))]) (fun _ => []) (fun j => [bxF b j.B j.y, rbxF rb j.B j.z, oldF w]) ?_ ?_
  · rintro ⟨k, B, y, z⟩ ⟨hok, hB⟩
    have hri := hok.ri
    have h14 := hok.k14
    have hy := hok.y
    have hz := hok.z
    simp only at hB hri h14 hy hz
    subst hB
    refine tri_of g ?_
    intro β w' hs
    exact hs.fin [0, 1] ⟨b, rb, y, z, rfl, ⟨hri.inv, hri.sym, by have := hri.len; omega, hri.sz⟩, hy, hz, rfl⟩ rfl rfl rfl ⟨rfl, rfl, trivial⟩
  refine tri_seq g ?_
  refine tri_block ?_
  refine loop_ruleT (ι := KL) 0 (fun j => [(4, .c (.v (ptrB b))), (5, .c (.v (ptrB rb))), (16, .c (.v (.slice A ops.length c))), (17, .c (.v (.int .i64 (ops.length : Int)))), (18, .c (.v (.int .i64 (j.k : Int))))]) (fun _ => []) (fun j => [bxF b j.B j.y, rbxF rb j.B j.z, oldF w])
    (fun j => j.Ok ops) (fun j => ops.length - j.k) ⟨0, ⟨true, false, []⟩, y0, ⟨none, 0, 0, []⟩⟩ (KL.Ok.start hy0) (Ent.mk' ⟨rfl, rfl, rfl, rfl, rfl, trivial⟩ rfl (fun β w' hs => (hstart (hs.keepB (List.nil_sublist _))).lower)) ?_
  intro i hi
  have hik := hi.k
  have hi14 := hi.k14
  have hri := hi.ri
  have hinv := hri.inv
  have hBl := hri.len
  refine tri_seq g ?_
  refine tri_seq g ?_
  refine BIf.dec (fun hlt => ?_) (fun hge => ?_)
  rotate_left
  · have hge0 : ¬ (i.k : Int) < (ops.length : Int) := hge
    exact EntX.of i ⟨hi, by rw [hi.B]; unfold runB; rw [List.take_of_length_le (show ops.length ≤ i.k by omega), List.take_of_length_le (show ops.length ≤ 14 by omega)]⟩ (Ent.mk' ⟨rfl, rfl, trivial⟩ rfl (fun β w' hs => hs))
  have hlt0 : (i.k : Int) < (ops.length : Int) := hlt
  have hkl : i.k < ops.length := by omega
  obtain ⟨o, ho, hom⟩ := at_lt hkl
  obtain ⟨ad, hA1, _⟩ := hA.2 (by omega)
  have hoo := hin o hom
  refine tri_seqJT (ι := KL) (fun j => j.Ok ops ∧ j.k = i.k + 1) 0 (fun _ => [(4, .c (.v (ptrB b))), (5, .c (.v (ptrB rb))), (16, .c (.v (.slice A ops.length c))), (17, .c (.v (.int .i64 (ops.length : Int)))), (18, .c (.v (.int .i64 (i.k : Int))))]) (fun _ => []) (fun j => [bxF b j.B j.y, rbxF rb j.B j.z, oldF w]) ?_ ?_
  · rintro ⟨k, B, y, z⟩ ⟨hj, hjk⟩
    simp only at hjk
    subst hjk
    refine tri_of g ?_
    refine ⟨((i.k + 1 : Nat) : Int), by rw [wrap_i64 (by omega) (by omega)]; rfl, ?_⟩
    exact ⟨_, hj, by show ops.length - (i.k + 1) < ops.length - i.k; omega, Ent.mk' ⟨rfl, rfl, rfl, rfl, rfl, trivial⟩ rfl (fun β w' hs => hs)⟩
  refine tri_block ?_
  refine tri_seq g ?_
  refine ⟨ad, i.k, hA1, rfl, hkl, o.cells, rfl, fun β w' hs => opKRd (by have h := Rd.old hA (hs.get 2 rfl); rw [hA1] at h; exact h) ho, ?_⟩
  refine tri_seq g ?_
  refine BIf.dec (fun h14 => ?_) (fun h14 => ?_)
  · have h140 : (i.k : Int) ≥ 14 := h14
    exact EntX.of i ⟨hi, by rw [hi.B]; unfold runB; rw [show i.k = 14 by omega]⟩ (Ent.mk' ⟨rfl, rfl, trivial⟩ rfl (fun β w' hs => (hs.keepB (List.nil_sublist _)).lower))
  have h140 : ¬ (i.k : Int) ≥ 14 := h14
  obtain ⟨k, B, y, z⟩ := i
  have hy := hi.y
  have hz := hi.z
  simp only at hik hi14 hri hinv hBl hlt0 hkl ho h140 hy hz
  have hB4 : B.L.length < 4096 := by omega
  obtain ⟨⟨hoK, hcK⟩, hoX, hcX⟩ := hoo
  have hkey : (opKey B o).length ≤ 52 := opKey_len B o
  have htext : (opText B o).length ≤ 52 := opText_len B o
  obtain ⟨nn, hnn⟩ : ∃ nn, numK B = nn := ⟨_, rfl⟩
  have hnn0 : 0 < nn := by rw [← hnn]; unfold numK; omega
  have hnn14 : nn ≤ 14 := by rw [← hnn]; unfold numK; omega
  have hmx : max (B.L.length : Int) 1 = (nn : Int) := by rw [← hnn]; unfold numK; omega
  refine tri_seq g ?_
  refine draw_rule g p_ostiarylaw28_build_6 (by kernel_rfl) [⟨0, ty_ostiarylaw28_Op, OpK.sl o⟩] [] (Sub.of (List.Sublist.refl _) (List.nil_sublist _)) ?_
  refine call_con [] (fun β w' hs => cutC w' o.K o.key o.cK 20 (Rd.old hoK (hs.get 2 rfl)) hcK (by decide)) ?_
  rintro v Fs ⟨A1, c1, rfl, q1, _, rfl⟩
  refine ⟨Sub.of (List.Sublist.refl _) (List.nil_sublist _), ?_⟩
  refine call_con [] (fun β w' hs => cutC w' o.X o.text o.cX 20 (Rd.old hoX (hs.get 3 rfl)) hcX (by decide)) ?_
  rintro v Fs ⟨A2, c2, rfl, q2, _, rfl⟩
  refine ⟨Sub.of (List.Sublist.refl _) (List.nil_sublist _), ?_⟩
  have hk20 : (o.key.take 20).length ≤ 20 := by rw [List.length_take]; omega
  have ht20 : (o.text.take 20).length ≤ 20 := by rw [List.length_take]; omega
  refine tri_seq g ?_
  refine ⟨.slice z.A B.L.length z.c, fun β w' hs => bk_cell (rbx_bk (hs.get 3 rfl)) (o := 1) rfl, ?_⟩
  refine ⟨(nn : Int), hmx, ?_⟩
  refine tri_seq g ?_
  have hne : (nn : Int) ≠ 0 := by omega
  obtain ⟨pl, ph⟩ := tmod_lo (x := o.p) hnn0
  obtain ⟨ql, qh⟩ := tmod_lo (x := o.q) hnn0
  obtain ⟨pl2, ph2⟩ := tmod_hi (x := o.p) hnn0
  obtain ⟨ql2, qh2⟩ := tmod_hi (x := o.q) hnn0
  refine draw_rule g p_ostiarylaw28_build_8 (by kernel_rfl) [⟨0, ty_ostiarylaw28_Op, OpK.sl o⟩] [] (Sub.of (List.Sublist.refl _) (List.nil_sublist _)) ?_
  refine ⟨hne, o.p.tmod nn, rfl, ?_⟩
  refine ⟨o.p.tmod nn + nn, wrap_i64 (by omega) (by omega), ?_⟩
  refine ⟨hne, (o.p.tmod nn + nn).tmod nn, rfl, ?_⟩
  refine ⟨(pkN nn o.p : Int), by rw [wrap_i64 (by omega) (by omega)]; exact pk_eq hnn0, ?_⟩
  refine ⟨hne, o.q.tmod nn, rfl, ?_⟩
  refine ⟨o.q.tmod nn + nn, wrap_i64 (by omega) (by omega), ?_⟩
  refine ⟨hne, (o.q.tmod nn + nn).tmod nn, rfl, ?_⟩
  refine ⟨(pkN nn o.q : Int), by rw [wrap_i64 (by omega) (by omega)]; exact pk_eq hnn0, ?_⟩
  have hpk1 := pk_le (x := o.p) hnn0
  have hpk2 := pk_le (x := o.q) hnn0
  refine call_con [] (fun β w' hs => rhandle_c w' (pkN nn o.p) (by omega)) ?_
  rintro v Fs ⟨A3, c3, rfl, q3, _, rfl⟩
  refine ⟨Sub.of (List.Sublist.refl _) (List.nil_sublist _), ?_⟩
  refine call_con [] (fun β w' hs => rhandle_c w' (pkN nn o.q) (by omega)) ?_
  rintro v Fs ⟨A4, c4, rfl, q4, _, rfl⟩
  refine ⟨Sub.of (List.Sublist.refl _) (List.nil_sublist _), ?_⟩
  have ehp : Bx.handle (pkN nn o.p) = hanP B o := by rw [← hnn]; rfl
  have ehq : Bx.handle (pkN nn o.q) = hanQ B o := by rw [← hnn]; rfl
  rw [ehp, ehq]
  have hlp : (hanP B o).length = 32 := Bx.handle_len _
  have hlq : (hanQ B o).length = 32 := Bx.handle_len _
  refine tri_seqJ (ι := Option Addr × Nat × Option Addr × Nat) g (fun i => (opKey B o).length ≤ i.2.1 ∧ (opText B o).length ≤ i.2.2.2) 1
    (fun i => [(4, .c (.v (ptrB b))), (5, .c (.v (ptrB rb))), (7, .c (.p 0 0)), (8, .c (.v (.slice i.1 (opKey B o).length i.2.1))), (9, .c (.v (.slice i.2.2.1 (opText B o).length i.2.2.2))), (11, .c (.v (.slice A3 32 c3))), (12, .c (.v (.slice A4 32 c4))), (16, .c (.v (.slice A ops.length c))), (17, .c (.v (.int .i64 (ops.length : Int)))), (18, .c (.v (.int .i64 (k : Int))))])
    (fun _ => [⟨0, ty_ostiarylaw28_Op, OpK.sl o⟩]) (fun i => [browF ty_uint8 i.1 (opKey B o) i.2.1, browF ty_uint8 i.2.2.1 (opText B o) i.2.2.2, browF ty_uint8 A3 (hanP B o) c3, browF ty_uint8 A4 (hanQ B o) c4, bxF b B y, rbxF rb B z, oldF w]) ?_ ?_
  rotate_left
  · obtain ⟨d, p, q, K, key, cK, X, text, cX, own⟩ := o
    simp only at hk20 ht20
    cases own with
    | false =>
      have e1 : opKey B ⟨d, p, q, K, key, cK, X, text, cX, false⟩ = key.take 20 := if_neg (fun h => by cases h.1)
      have e2 : opText B ⟨d, p, q, K, key, cK, X, text, cX, false⟩ = text.take 20 := if_neg (fun h => by cases h.1)
      rw [e1, e2]
      exact EntX.of (A1, c1, A2, c2) ⟨q1, q2⟩ (Ent.mk' ⟨rfl, rfl, rfl, rfl, rfl, rfl, rfl, rfl, rfl, rfl, trivial⟩ rfl (fun β w' hs => hs.perm [3, 2, 1, 0, 4, 5, 6]))
    | true =>
      refine ⟨.slice z.A B.L.length z.c, fun β w' hs => bk_cell (rbx_bk (hs.get 5 rfl)) (o := 1) rfl, ?_⟩
      refine BIf.dec (fun hl => ?_) (fun hl => ?_)
      · have hl0 : (B.L.length : Int) > 0 := hl
        have e1 : opKey B ⟨d, p, q, K, key, cK, X, text, cX, true⟩ = key.take 20 ++ hanP B ⟨d, p, q, K, key, cK, X, text, cX, true⟩ := if_pos ⟨rfl, by omega⟩
        have e2 : opText B ⟨d, p, q, K, key, cK, X, text, cX, true⟩ = text.take 20 ++ hanQ B ⟨d, p, q, K, key, cK, X, text, cX, true⟩ := if_pos ⟨rfl, by omega⟩
        rw [e1, e2]
        generalize hanP B ⟨d, p, q, K, key, cK, X, text, cX, true⟩ = hp at hlp ⊢
        generalize hanQ B ⟨d, p, q, K, key, cK, X, text, cX, true⟩ = hq at hlq ⊢
        generalize key.take 20 = k0 at hk20 ⊢
        generalize text.take 20 = t0 at ht20 ⊢
        refine ⟨3, k0.length, (k0 ++ hp).length, k0.map byte, hp.map byte, (k0 ++ hp).map byte, rfl, fun β w' hs => by
          have h := row_rd (hs.get 1 rfl)
          rw [hlp] at h
          exact h, bytes_one _, by rw [List.length_append, hlp], by rw [List.map_append], by rw [List.length_append]; omega, by show (k0 ++ hp).length * 1 ≤ _; rw [List.length_append]; omega, ?_⟩
        intro A5 c5 q5 _ _
        refine ⟨2, t0.length, (t0 ++ hq).length, t0.map byte, hq.map byte, (t0 ++ hq).map byte, rfl, fun β w' hs => by
          have h := row_rd (hs.get 0 rfl)
          rw [hlq] at h
          exact h, bytes_one _, by rw [List.length_append, hlq], by rw [List.map_append], by rw [List.length_append]; omega, by show (t0 ++ hq).length * 1 ≤ _; rw [List.length_append]; omega, ?_⟩
        intro A6 c6 q6 _ _
        exact EntX.of (A5, c5, A6, c6) ⟨q5, q6⟩ (Ent.mk' ⟨rfl, rfl, rfl, rfl, rfl, rfl, rfl, rfl, rfl, rfl, trivial⟩ rfl (fun β w' hs => hs.perm [3, 2, 1, 0, 4, 5, 6]))
      · have hl0 : ¬ (B.L.length : Int) > 0 := hl
        have e1 : opKey B ⟨d, p, q, K, key, cK, X, text, cX, true⟩ = key.take 20 := if_neg (fun h => by have := h.2; omega)
        have e2 : opText B ⟨d, p, q, K, key, cK, X, text, cX, true⟩ = text.take 20 := if_neg (fun h => by have := h.2; omega)
        rw [e1, e2]
        exact EntX.of (A1, c1, A2, c2) ⟨q1, q2⟩ (Ent.mk' ⟨rfl, rfl, rfl, rfl, rfl, rfl, rfl, rfl, rfl, rfl, trivial⟩ rfl (fun β w' hs => hs.perm [3, 2, 1, 0, 4, 5, 6]))
  rintro ⟨A5, c5, A6, c6⟩ ⟨hc5, hc6⟩
  simp only at hc5 hc6
  have hst : ∀ {B'}, B' = stepK B o (opKey B o) (opText B o) → B' = stepB B o := fun h => h
  generalize opKey B o = kk at hkey hc5 hst ⊢
  generalize opText B o = tt at htext hc6 hst ⊢
  have hend : ∀ {B' : Bx.Box} {y' z' : Lay}, B' = stepK B o kk tt → y'.ts.map (·.1) = B'.L → z'.ts.map (·.1) = B'.L → (KL.mk (k + 1) B' y' z').Ok ops := fun h1 h2 h3 => hi.next ho (by show k < 14; omega) (hst h1) h2 h3
  unfold stepK at hend
  refine tri_of g ?_
  refine ⟨by decide, ((o.d.toNat % 6 : Nat) : Int), Int.ofNat_tmod _ _, ?_⟩
  obtain ⟨m, hm⟩ : ∃ m, o.d.toNat % 6 = m := ⟨_, rfl⟩
  rw [hm] at hend ⊢
  refine BIf.dec (fun m0 => ?_) (fun m0 => ?_)
  · have m00 : (m : Int) = 0 := m0
    rw [if_pos (show m = 0 by omega)] at hend
    intro bs
    refine call_con [5] (R := outL (bxF b) (hashB B tt)) (fun β w' hs => by
      have k1 := ((hs.rowRd 0 rfl).ro 2 rfl).part1 (l := tt) [0, 2] rfl
      have k2 := (k1.fromOld 8 rfl (firstF 0) rfl h0 (rd_lt h0)).fromOld 9 rfl (oddF 2) rfl h1 (rd_lt h1)
      exact hashL_c w' b B y bs A6 tt c6 hy hinv hB4 (by omega) (k2.mem.take (js := [8, 2, 0, 1]) rfl)) ?_
    rintro v Fs ⟨A7, c7, y', rfl, _, _, hy', rfl⟩
    refine call_con [7] (R := outL (rbxF rb) (hashB B tt)) (fun β w' hs => by
      have k1 := (hs.ro 4 rfl).fromOld 8 rfl (oddF 3) rfl h2 (rd_lt h2)
      exact rhashL_c w' rb B z A6 tt c6 hz hinv hB4 (by omega) (k1.mem.take (js := [8, 5, 0]) rfl)) ?_
    rintro v Fs ⟨A8, c8, z', rfl, _, _, hz', rfl⟩
    exact EntX.of ⟨k + 1, (hashB B tt).2, y', z'⟩ ⟨hend rfl hy' hz', rfl⟩ (Ent.mk' ⟨rfl, rfl, rfl, rfl, rfl, trivial⟩ rfl (fun β w' hs => ((hs.keepB (List.nil_sublist _)).perm [3, 1, 9]).lower))
  have m00 : ¬ (m : Int) = 0 := m0
  rw [if_neg (show ¬ m = 0 by omega)] at hend
  refine BIf.dec (fun m1 => ?c3) (fun m1 => ?n3)
  case' c3 => refine BIf.dec (fun _ => ?d3) (fun h => absurd m1 h)
  case' n3 => refine BIf.dec (fun m2 => ?d4) (fun m2 => ?n4)
  case' c3 =>
    have m12 : m = 1 ∨ m = 2 := .inl (by have : (m : Int) = 1 := m1; omega)
  case' d4 =>
    have m12 : m = 1 ∨ m = 2 := .inr (by have : (m : Int) = 2 := m2; omega)
  case' c3 | d4 =>
    rw [if_pos m12] at hend
    intro bs
    refine call_con [5] (R := outL (bxF b) (macB B kk tt)) (fun β w' hs => by
      have k1 := (((hs.rowRd 0 rfl).ro 1 rfl).ro 2 rfl).part1 (l := tt) [0, 2] rfl
      have k2 := (k1.fromOld 8 rfl (firstF 0) rfl h0 (rd_lt h0)).fromOld 9 rfl (oddF 2) rfl h1 (rd_lt h1)
      exact macL_c w' b B y A5 kk c5 bs A6 tt c6 hy hinv hB4 (by omega) (by omega) (k2.mem.take (js := [8, 2, 4, 0, 1]) rfl)) ?_
    rintro v Fs ⟨A7, c7, y', rfl, _, _, hy', rfl⟩
    refine call_con [7] (R := outL (rbxF rb) (macB B kk tt)) (fun β w' hs => by
      have k1 := ((hs.ro 3 rfl).ro 4 rfl).fromOld 8 rfl (oddF 3) rfl h2 (rd_lt h2)
      exact rmacL_c w' rb B z A5 A6 kk tt c5 c6 hz hinv hB4 (by omega) (by omega) (k1.mem.take (js := [8, 4, 5, 0]) rfl)) ?_
    rintro v Fs ⟨A8, c8, z', rfl, _, _, hz', rfl⟩
    exact EntX.of ⟨k + 1, (macB B kk tt).2, y', z'⟩ ⟨hend rfl hy' hz', rfl⟩ (Ent.mk' ⟨rfl, rfl, rfl, rfl, rfl, trivial⟩ rfl (fun β w' hs => ((hs.keepB (List.nil_sublist _)).perm [3, 1, 9]).lower))
  have m10 : ¬ (m : Int) = 1 := m1
  have m20 : ¬ (m : Int) = 2 := m2
  rw [if_neg (show ¬ (m = 1 ∨ m = 2) by omega)] at hend
  refine BIf.dec (fun m3 => ?_) (fun m3 => ?_)
  · have m30 : (m : Int) = 3 := m3
    rw [if_pos (show m = 3 by omega)] at hend
    refine call_con [4] (R := strL (bxF b) (strB B kk tt 1)) (fun β w' hs => by
      have k1 := (hs.ro 0 rfl).ro 1 rfl
      have k2 := (k1.fromOld 6 rfl (firstF 0) rfl h0 (rd_lt h0)).fromOld 7 rfl (oddF 2) rfl h1 (rd_lt h1)
      exact strL_c w' b B y A5 A6 kk tt c5 c6 1 (by decide) hy hinv hB4 (by omega) (by omega) (k2.mem.take (js := [6, 2, 3, 0, 1]) rfl)) ?_
    rintro v Fs ⟨A7, c7, y', rfl, _, _, hy', rfl⟩
    refine call_con [6] (R := outL (rbxF rb) (strB B kk tt 1)) (fun β w' hs => by
      have k1 := ((hs.ro 2 rfl).ro 3 rfl).fromOld 7 rfl (oddF 3) rfl h2 (rd_lt h2)
      exact rstrL_c w' rb B z A5 A6 kk tt c5 c6 1 (by decide) hz hinv hB4 (by omega) (by omega) (k1.mem.take (js := [7, 3, 4, 0]) rfl)) ?_
    rintro v Fs ⟨A8, c8, z', rfl, _, _, hz', rfl⟩
    exact EntX.of ⟨k + 1, (strB B kk tt 1).2, y', z'⟩ ⟨hend rfl hy' hz', rfl⟩ (Ent.mk' ⟨rfl, rfl, rfl, rfl, rfl, trivial⟩ rfl (fun β w' hs => ((hs.keepB (List.nil_sublist _)).perm [3, 1, 8]).lower))
  have m30 : ¬ (m : Int) = 3 := m3
  rw [if_neg (show ¬ m = 3 by omega)] at hend
  refine ⟨.slice z.A B.L.length z.c, fun β w' hs => bk_cell (rbx_bk (hs.get 5 rfl)) (o := 1) rfl, ?_⟩
  refine BIf.dec (fun hl => ?_) (fun hl => ?_)
  rotate_left
  · have hl0 : ¬ (B.L.length : Int) > 0 := hl
    rw [if_neg (show ¬ 0 < B.L.length by omega)] at hend
    exact EntX.of ⟨k + 1, B, y, z⟩ ⟨hend rfl hy hz, rfl⟩ (Ent.mk' ⟨rfl, rfl, rfl, rfl, rfl, trivial⟩ rfl (fun β w' hs => ((hs.keepB (List.nil_sublist _)).perm [4, 5, 6]).lower))
  have hl0 : (B.L.length : Int) > 0 := hl
  rw [if_pos (show 0 < B.L.length by omega)] at hend
  have hokS : ∀ tag l m, B.opens tag = some (l, m) → OkN B l m := fun tag l m h => ((opens_nf hinv h).2.1.ok hinv)
  generalize hanP B o = hp at hlp hend ⊢
  generalize hanQ B o = hq at hlq hend ⊢
  refine call_con [4] (R := turnOut b B y hp hq) (fun β w' hs => by
    have k1 := (hs.ro 2 rfl).ro 3 rfl
    have k2 := turnB_c w' b B y A3 A4 hp hq c3 c4 hy hinv.len hinv.sz (fun tag l m h => (hokS tag l m h).1) (k1.mem.take (js := [4, 2, 3]) rfl) (by omega) (by omega) (by omega) (by omega)
    rw [hlp, hlq] at k2
    exact k2) ?_
  rcases turn_cases hinv (B := B) (by omega) hp hq with e | ⟨h, B', e, hgood⟩
  · rw [turnOut_none e]
    rintro v Fs ⟨rfl, rfl⟩
    refine call_con [5] (R := rturnOut rb B z hp hq) (fun β w' hs => by
      have k1 := (hs.ro 3 rfl).ro 4 rfl
      have k2 := rturn_c w' rb B z A3 A4 hp hq c3 c4 hz hinv.len hinv.sz hokS (k1.mem.take (js := [5, 3, 4]) rfl) (by omega) (by omega) (by omega) (by omega)
      rw [hlp, hlq] at k2
      exact k2) ?_
    rw [rturnOut_none e]
    rintro v Fs ⟨rfl, rfl⟩
    exact EntX.of ⟨k + 1, B, y, z⟩ ⟨hend (by rw [e]) hy hz, rfl⟩ (Ent.mk' ⟨rfl, rfl, rfl, rfl, rfl, trivial⟩ rfl (fun β w' hs => ((hs.keepB (List.nil_sublist _)).perm [1, 0, 6]).lower))
  · rw [turnOut_some e]
    rintro v Fs ⟨A7, c7, y', rfl, _, _, hy', rfl⟩
    refine call_con [6] (R := rturnOut rb B z hp hq) (fun β w' hs => by
      have k1 := (hs.ro 4 rfl).ro 5 rfl
      have k2 := rturn_c w' rb B z A3 A4 hp hq c3 c4 hz hinv.len hinv.sz hokS (k1.mem.take (js := [6, 4, 5]) rfl) (by omega) (by omega) (by omega) (by omega)
      rw [hlp, hlq] at k2
      exact k2) ?_
    rw [rturnOut_some e]
    rintro v Fs ⟨A8, c8, z', rfl, _, _, hz', rfl⟩
    exact EntX.of ⟨k + 1, B', y', z'⟩ ⟨hend (by rw [e]) hy' hz', rfl⟩ (Ent.mk' ⟨rfl, rfl, rfl, rfl, rfl, trivial⟩ rfl (fun β w' hs => ((hs.keepB (List.nil_sublist _)).perm [3, 1, 8]).lower))
def secL (ts : List Part) : List (List UInt8) := (ts.take 4).map fun q => q.2.1.take 10
def seeL (l : List Nat) (q : Part) : List Nat := (foundS (q.2.1.take 150)).foldl setPut l
def seenL (ss : List Part) : List Nat := (ss.take 5).foldl seeL []
theorem Sat.secsRo {cx : Cx} {β : Va} {n : Nat} {H : List Bk} {F : List Fact} {w : World} (h : Sat cx β n H F w) (j : Nat) {P : Option Addr} {ps : List Part} (hj : nth F j = some (secsF P ps)) : Sat cx β n H (putAt F j (partF P ps)) w :=
  h.upd hj rfl (Chg.refl _ _) (h.get j hj : (secsF P ps).p w) (fun k hk => .inl hk)
theorem partF_old {W w : World} {P : Option Addr} {ps : List Part} (h : (partF P ps).p W) (ho : (oldF W).p w) : (partF P ps).p w := ⟨Rd.old h.1 ho, fun q hq => Rd.old (h.2 q hq) ho⟩
theorem takeT {α : Type} {l : List α} {m j : Nat} {x : α} (hx : l[j]? = some x) (hj : j < m) : (l.take m).take (j + 1) = (l.take m).take j ++ [x] := by
  rw [List.take_add_one, List.getElem?_take, if_pos hj, hx]
  rfl
theorem takeF {α : Type} {l : List α} {m j : Nat} (hj : m ≤ j) : (l.take m).take j = l.take m := List.take_of_length_le (by rw [List.length_take]; omega)
structure MnJ where
  j : Nat
  seen : List Nat
  S : Option Addr
  l : List Nat
  c : Nat
theorem minds_c (w : World) (A T S : Option Addr) (c cT cS : Nat) (ops : List OpK) (ts ss : List Part) (hA : Rd 6 A ops.length (ops.flatMap OpK.cells) w) (hin : ∀ o ∈ ops, o.ok w) (hn : ops.length ≤ 9223372036854775807)
    (hT : (partF T ts).p w) (hTn : ts.length ≤ 9223372036854775807) (hTc : ∀ q ∈ ts, q.2.1.length ≤ q.2.2) (hS : (partF S ss).p w) (hSn : ss.length ≤ 9223372036854775807) (hSc : ∀ q ∈ ss, q.2.1.length ≤ q.2.2)
    (h1 : (oddF 2).p w) (h0 : (firstF 0).p w) (h2 : (oddF 3).p w) :
    Con Tryz.prog n_ostiarylaw28_minds #[.slice A ops.length c, .slice T ts.length cT, .slice S ss.length cS] w [] fun v Fs => ∃ (x : Md) (y z : Lay) (m : RM), v = .tuple #[.pointer (some ⟨x.b, 0, none⟩), .pointer (some ⟨m.yb, 0, none⟩)] ∧ RI (runB ops) 14 ∧ y.ts.map (·.1) = (runB ops).L ∧ z.ts.map (·.1) = (runB ops).L ∧ x.ss = secL ts ∧ x.seen = seenL ss ∧ Fs = mdFs x ++ [bxF x.bx (runB ops) y, rbxF m.rb (runB ops) z] ++ rmFs m := by
  have g := good_ostiarylaw28_minds w (Un [])
  have hml := maxLen_eq
  refine con_of_sx (cx := cx_ostiarylaw28_minds w (Un [])) g b_ostiarylaw28_minds rfl rfl (β := Va.z) [.c (.v (.slice A ops.length c)), .c (.v (.slice T ts.length cT)), .c (.v (.slice S ss.length cS))] 0 [] [oldF w] rfl rfl (old_sat rfl) ?_
  refine call_con [] (fun β w' hs => build_c w' A c ops (Rd.old hA (hs.get 0 rfl)) (fun o ho => ⟨⟨Rd.old (hin o ho).1.1 (hs.get 0 rfl), (hin o ho).1.2⟩, Rd.old (hin o ho).2.1 (hs.get 0 rfl), (hin o ho).2.2⟩) hn (Rd.old h1 (hs.get 0 rfl)) (Rd.old h0 (hs.get 0 rfl)) (Rd.old h2 (hs.get 0 rfl))) ?_
  rintro v Fs ⟨b, rb, y, z, rfl, hri, hy, hz, rfl⟩
  generalize hB : runB ops = B at hri hy hz ⊢
  obtain ⟨tl, htl⟩ : ∃ tl, ts.take 4 = tl := ⟨_, rfl⟩
  have htl4 : tl.length ≤ 4 := by rw [← htl, List.length_take]; omega
  refine loop_rule (ι := Nat × NwS) 0 (fun j => [(2, .c (.v (.slice S ss.length cS))), (8, .c (.v (ptrB b))), (9, .c (.v (ptrB rb))), (10, .c (.v (.slice j.2.A j.2.qs.length j.2.c))), (23, .c (.v (.slice T ts.length cT))), (24, .c (.v (.int .i64 (ts.length : Int)))), (25, .c (.v (.int .i64 (j.1 : Int))))]) (fun _ => []) (fun j => [bxF b B y, rbxF rb B z, rowF ty_sl_uint8 1 (.slice j.2.A j.2.qs.length j.2.c) j.2.qs.length (j.2.qs.map partV), ownF j.2.qs, oldF w])
    (fun j => j.1 ≤ ts.length ∧ j.2.qs.map (·.2.1) = (tl.take j.1).map (fun q => q.2.1.take 10) ∧ ∀ q ∈ j.2.qs, q.2.1.length ≤ 10 ∧ q.2.1.length ≤ q.2.2) (fun j => ts.length - j.1) (0, ⟨none, 0, []⟩) ⟨Nat.zero_le _, rfl, fun q hq => (by cases hq)⟩ (Ent.mk' ⟨rfl, rfl, rfl, rfl, rfl, rfl, rfl, trivial⟩ rfl (fun β w' hs => ?_)) g ?_
  · exact (((hs.nilRow ty_sl_uint8 1).fuse [] (ownF []) (fun w _ q h => by cases h) (fun k ⟨q, h, _⟩ => by cases h)).perm [2, 3, 1, 0, 4])
  rintro ⟨j, SA, sc, qs⟩ ⟨hj, hqs, hq10⟩
  simp only at hj hqs hq10
  have hql : qs.length = min j tl.length := by
    have := congrArg List.length hqs
    rw [List.length_map, List.length_map, List.length_take] at this
    exact this
  refine BIf.dec (fun hlt => ?_) (fun hge => ?_)
  · have hlt0 : (j : Int) < (ts.length : Int) := hlt
    obtain ⟨q, hq, hqm⟩ := at_lt (show j < ts.length by omega)
    obtain ⟨ad, hP, _⟩ := hT.1.2 (by omega)
    refine ⟨ad, j, hP, rfl, by omega, ?_⟩
    refine ⟨partV q, fun β w' hs => Rd.cell1 (show Rd 1 (some ad) ts.length (ts.map partV) w' from hP ▸ Rd.old hT.1 (hs.get 4 rfl)) (by rw [List.getElem?_map, hq]; rfl), ?_⟩
    obtain ⟨Q, l, cQ⟩ := q
    have hq1 := hTc _ hqm
    have hqB := hT.2 _ hqm
    simp only at hq1 hqB
    refine BIf.dec (fun h4 => ?_) (fun h4 => ?_)
    · have h40 : (j : Int) < 4 := h4
      refine call_con [] (fun β w' hs => cutC w' Q l cQ 10 (Rd.old hqB (hs.get 4 rfl)) hq1 (by decide)) ?_
      rintro v Fs ⟨A', c', rfl, hc1, hc2, rfl⟩
      have hl10 : (l.take 10).length ≤ 10 := by rw [List.length_take]; omega
      obtain ⟨l0, hl0⟩ : ∃ l0, l.take 10 = l0 := ⟨_, rfl⟩
      rw [hl0] at hc1 hl10 ⊢
      intro b2
      obtain ⟨qs', hq'⟩ : ∃ qs', qs' = qs ++ [((A', l0, c') : Part)] := ⟨_, rfl⟩
      have hql' : qs.length + 1 = qs'.length := by rw [hq', List.length_append]; rfl
      refine ⟨4, qs.length, qs'.length, qs.map partV, [partV (A', l0, c')], qs'.map partV, rfl, fun β w' hs => row_rd (hs.get 0 rfl), fun u hu => by obtain rfl := List.mem_singleton.1 hu; rfl, hql', by rw [hq', List.map_append]; rfl, by rw [hml]; omega, by show qs'.length * 24 ≤ _; omega, ?_⟩
      intro A2 c2 r1 r2 r3
      refine ⟨(((j + 1) : Nat) : Int), by rw [wrap_i64 (by omega) (by omega)]; rfl, ?_⟩
      refine ⟨(j + 1, ⟨A2, c2, qs'⟩), ⟨by show j + 1 ≤ _; omega, ?_, ?_⟩, by show ts.length - (j + 1) < ts.length - j; omega, Ent.mk' ⟨rfl, rfl, rfl, rfl, rfl, rfl, rfl, trivial⟩ rfl (fun β w hs => ?_)⟩
      · show qs'.map (·.2.1) = (tl.take (j + 1)).map _
        rw [hq', ← htl, takeT hq (by omega), htl, List.map_append, List.map_append, hqs, ← hl0]
        rfl
      · show ∀ q ∈ qs', _
        intro q0 h0
        rw [hq'] at h0
        rcases List.mem_append.1 h0 with h0 | h0
        · exact hq10 q0 h0
        · obtain rfl := List.mem_singleton.1 h0
          exact ⟨hl10, hc1⟩
      · refine (hs.fuse [5, 1] (ownF qs') (fun w hm => ?_) (fun k hk => ?_)).perm [2, 3, 4, 0, 5]
        · intro q0 h0
          rw [hq'] at h0
          rcases List.mem_append.1 h0 with h0 | h0
          · exact (show (ownF qs).p w from hm.fact (ownF qs) (show ownF qs ∈ [ownF qs, browF ty_uint8 A' l0 c'] from List.mem_cons_self)) q0 h0
          · obtain rfl := List.mem_singleton.1 h0
            exact row_rd (hm.fact (browF ty_uint8 A' l0 c') (show browF ty_uint8 A' l0 c' ∈ [ownF qs, browF ty_uint8 A' l0 c'] from List.mem_cons_of_mem _ (List.mem_singleton.2 rfl)))
        · obtain ⟨q0, h0, hk⟩ := hk
          rw [hq'] at h0
          rcases List.mem_append.1 h0 with h0 | h0
          · exact ⟨ownF qs, List.mem_cons_self, q0, h0, hk⟩
          · obtain rfl := List.mem_singleton.1 h0
            exact ⟨browF ty_uint8 A' l0 c', List.mem_cons_of_mem _ (List.mem_singleton.2 rfl), hk⟩
    · have h40 : ¬ (j : Int) < 4 := h4
      refine ⟨(((j + 1) : Nat) : Int), by rw [wrap_i64 (by omega) (by omega)]; rfl, ?_⟩
      refine ⟨(j + 1, ⟨SA, sc, qs⟩), ⟨by show j + 1 ≤ _; omega, ?_, hq10⟩, by show ts.length - (j + 1) < ts.length - j; omega, Ent.mk' ⟨rfl, rfl, rfl, rfl, rfl, rfl, rfl, trivial⟩ rfl (fun β w hs => hs)⟩
      show qs.map (·.2.1) = (tl.take (j + 1)).map _
      rw [hqs, ← htl, takeF (by omega), takeF (by omega)]
  · have hge0 : ¬ (j : Int) < (ts.length : Int) := hge
    have ht : tl.take j = tl := List.take_of_length_le (by rw [← htl, List.length_take]; omega)
    rw [ht] at hqs
    have hql4 : qs.length ≤ 4 := by omega
    refine call_con [0] (R := fun v Fs => ∃ x : Md, v = .tuple #[.pointer (some ⟨x.b, 0, none⟩), .int .i64 0] ∧ x.bx = b ∧ x.ss = qs.map (·.2.1) ∧ x.seen = [] ∧ Fs = mdFs x ++ [bxF b B y]) (fun β w' hs => knowsNew_c w' b B y SA qs sc hri.sym (by omega) (fun q hq => ⟨by have := (hq10 q hq).1; omega, (hq10 q hq).2⟩)
      (((hs.fuse [2, 3] (secsF SA qs) (fun w hm => ⟨row_rd (hm.fact (rowF ty_sl_uint8 1 (.slice SA qs.length sc) qs.length (qs.map partV)) (by simp [takeIx, nth])), hm.fact (ownF qs) (by simp [takeIx, nth])⟩) (fun k hk => by
        rcases hk with ⟨_, ad, rfl, rfl⟩ | ⟨q, hq, hk⟩
        · exact ⟨_, List.mem_cons_self, rfl⟩
        · exact ⟨ownF qs, List.mem_cons_of_mem _ (List.mem_singleton.2 rfl), q, hq, bsD_brow hk⟩)).secsRo 0 rfl).mem.take (js := [1, 0]) rfl)) ?_
    rintro v Fs ⟨x0, rfl, rfl, hss, hsn, rfl⟩
    have hx0 : x0 = { x0 with seen := [] } := by obtain ⟨a1, a2, a3, a4, a5, a6, a7⟩ := x0; simp only at hsn; rw [hsn]
    rw [hqs] at hss
    have hss2 : x0.ss = secL ts := by rw [hss, ← htl]; rfl
    obtain ⟨sl, hsl⟩ : ∃ sl, ss.take 5 = sl := ⟨_, rfl⟩
    have hsl5 : sl.length ≤ 5 := by rw [← hsl, List.length_take]; omega
    refine reify_rule g 0 (fun _ => [ptrB rb, .slice SA qs.length sc, .slice none 0 0]) rfl rfl (fun _ => rfl) (fun yb => ?_)
    refine loop_rule (ι := MnJ) 0 (fun j => [(13, .c (.v (.pointer (some ⟨x0.b, 0, none⟩)))), (15, .c (.v (.pointer (some ⟨yb, 0, none⟩)))), (48, .c (.v (.slice S ss.length cS))), (49, .c (.v (.int .i64 (ss.length : Int)))), (50, .c (.v (.int .i64 (j.j : Int))))]) (fun _ => []) (fun j => mdFs { x0 with seen := j.seen } ++ [bxF x0.bx B y, rbxF rb B z] ++ rmFs ⟨yb, rb, SA, qs.length, sc, j.S, j.l, j.c⟩ ++ [oldF w])
      (fun j => j.j ≤ ss.length ∧ j.seen = (sl.take j.j).foldl seeL [] ∧ j.l.length ≤ 14000 * min j.j 5) (fun j => ss.length - j.j) ⟨0, [], none, [], 0⟩ ⟨Nat.zero_le _, rfl, Nat.zero_le _⟩ (Ent.mk' ⟨rfl, rfl, rfl, rfl, rfl, trivial⟩ rfl (fun β w' hs => by rw [← hx0]; exact ((hs.nilRow ty_int 1).perm [2, 3, 4, 5, 6, 1, 0, 9]).lower)) g ?_
    rintro ⟨i, seen, S', l, cl⟩ ⟨hi, hseen, hll⟩
    simp only at hi hseen hll
    refine BIf.dec (fun hlt => ?_) (fun hge => ?_)
    · have hlt0 : (i : Int) < (ss.length : Int) := hlt
      obtain ⟨q, hq, hqm⟩ := at_lt (show i < ss.length by omega)
      obtain ⟨ad, hP, _⟩ := hS.1.2 (by omega)
      refine ⟨ad, i, hP, rfl, by omega, ?_⟩
      refine ⟨partV q, fun β w' hs => Rd.cell1 (show Rd 1 (some ad) ss.length (ss.map partV) w' from hP ▸ Rd.old hS.1 (hs.get 7 rfl)) (by rw [List.getElem?_map, hq]; rfl), ?_⟩
      have hq1 := hSc _ hqm
      have hqB := hS.2 _ hqm
      refine BIf.dec (fun h5 => ?_) (fun h5 => ?_)
      · have h50 : (i : Int) < 5 := h5
        refine call_con [] (fun β w' hs => cutC w' q.1 q.2.1 q.2.2 150 (Rd.old hqB (hs.get 7 rfl)) hq1 (by decide)) ?_
        rintro v Fs ⟨A', c', rfl, hc1, hc2, rfl⟩
        have hl150 : (q.2.1.take 150).length ≤ 150 := by rw [List.length_take]; omega
        have hsee : seeL seen q = (foundS (q.2.1.take 150)).foldl setPut seen := rfl
        generalize q.2.1.take 150 = l0 at hc1 hl150 hsee ⊢
        refine call_con [1, 2, 3] (R := fun v Fs => v = .tuple #[] ∧ Fs = mdFs { x0 with seen := seeL seen q }) (hown := ⟨rfl, rfl, rfl, trivial⟩) (fun β w' hs => by
          have h3 := See_c w' { x0 with seen := seen } A' l0 c' (by omega) hc1 ((hs.ro 0 rfl).mem.take (js := [1, 2, 3, 0]) rfl)
          rw [hsee]
          exact h3) ?_
        rintro v Fs ⟨rfl, rfl⟩
        refine call_con [6, 7] (R := fun v Fs => v = .tuple #[] ∧ ∃ S2 l2 c2, List.length l2 ≤ l.length + 14000 ∧ Fs = rmFs ⟨yb, rb, SA, qs.length, sc, S2, l2, c2⟩) (hown := ⟨rfl, rfl, trivial⟩) (fun β w' hs => rSee_c w' ⟨yb, rb, SA, qs.length, sc, S', l, cl⟩ A' l0 c' (by omega) hc1 (by show l.length ≤ _; omega) ((hs.ro 3 rfl).mem.take (js := [6, 7, 3]) rfl)) ?_
        rintro v Fs ⟨rfl, S2, l2, c2, hl2, rfl⟩
        refine ⟨((i + 1 : Nat) : Int), by rw [wrap_i64 (by omega) (by omega)]; rfl, ?_⟩
        refine ⟨⟨i + 1, seeL seen q, S2, l2, c2⟩, ⟨by show i + 1 ≤ _; omega, ?_, by show l2.length ≤ 14000 * min (i + 1) 5; omega⟩, by show ss.length - (i + 1) < ss.length - i; omega, Ent.mk' ⟨rfl, rfl, rfl, rfl, rfl, trivial⟩ rfl (fun β w' hs => hs.perm [2, 3, 4, 6, 7, 0, 1, 8])⟩
        show seeL seen q = (sl.take (i + 1)).foldl seeL []
        rw [← hsl, takeT hq (by omega), hsl, List.foldl_append, ← hseen]
        rfl
      · have h50 : ¬ (i : Int) < 5 := h5
        refine ⟨((i + 1 : Nat) : Int), by rw [wrap_i64 (by omega) (by omega)]; rfl, ?_⟩
        refine ⟨⟨i + 1, seen, S', l, cl⟩, ⟨by show i + 1 ≤ _; omega, ?_, by show l.length ≤ 14000 * min (i + 1) 5; omega⟩, by show ss.length - (i + 1) < ss.length - i; omega, Ent.mk' ⟨rfl, rfl, rfl, rfl, rfl, trivial⟩ rfl (fun β w' hs => hs)⟩
        show seen = (sl.take (i + 1)).foldl seeL []
        rw [hseen, ← hsl, takeF (by omega), takeF (by omega)]
    · have hge0 : ¬ (i : Int) < (ss.length : Int) := hge
      have ht : sl.take i = sl := List.take_of_length_le (by rw [← hsl, List.length_take]; omega)
      rw [ht] at hseen
      intro β w' hs
      exact hs.fin [0, 1, 2, 3, 4, 5, 6] ⟨{ x0 with seen := seen }, y, z, ⟨yb, rb, SA, qs.length, sc, S', l, cl⟩, rfl, hri, hy, hz, hss2, by show seen = seenL ss; rw [hseen, ← hsl]; rfl, rfl⟩ rfl rfl rfl ⟨rfl, rfl, rfl, rfl, rfl, rfl, rfl, trivial⟩
def GivesM (k : FuncId) (bx : Nat) (ty : TypeId) (cs : List Value) (G G' Rf : Fact) (n : Nat) (P : List Int → Prop) : Prop :=
  ∀ (l : Nat) (w : World) (f0 R : Fact) (J Jx : List Int → Fact → Prop), J [] f0 → (∀ pre f, J pre f → f.own = true) → R.own = false → Yc Tryz.prog l J Jx R (insKJ n) → Mem w (f0 :: R :: [bkF bx ty cs, G, Rf]) →
    Con Tryz.prog k #[.func (.yield l) #[] #[], .pointer (some ⟨bx, 0, none⟩)] w [f0, bkF bx ty cs, G] (fun _ Fs => ∃ f Fs', Fs = f :: Fs' ∧ ((∃ xs, J xs f ∧ P xs ∧ Fs' = [G']) ∨ (∃ pre, Jx pre f ∧ Fs' = [G'])))
theorem ownM {G Rf g : Fact} {bx ty : Nat} {cs : List Value} (hRf : Rf.own = false) : ∀ f ∈ [bkF bx ty cs, G, Rf], f.own = true → ∀ k, f.D k → Un [bkF bx ty cs, G] k := fun f hf ho k hk => by
  simp only [List.mem_cons, List.not_mem_nil, or_false] at hf
  rcases hf with rfl | rfl | rfl
  · exact ⟨_, List.mem_cons_self, hk⟩
  · exact ⟨_, List.mem_cons_of_mem _ List.mem_cons_self, hk⟩
  · rw [hRf] at ho; cases ho
theorem appendM_c (w : World) (k : FuncId) (bx : Nat) (ty : TypeId) (cs : List Value) (G G' Rf : Fact) (n : Nat) (P : List Int → Prop) (hcall : callable Tryz.prog k = true) (hG : G.own = true) (hG' : G'.own = true) (hRf : Rf.own = false) (hn : n ≤ 1000000) (hg : GivesM k bx ty cs G G' Rf n P) (hm : Mem w [bkF bx ty cs, G, Rf]) :
    Con Tryz.prog n_slices_AppendSeq_int_int #[.slice none 0 0, .func (.func k) #[] #[.pointer (some ⟨bx, 0, none⟩)]] w [bkF bx ty cs, G] fun v Fs => ∃ A c l, v = .slice A (List.length l) c ∧ P l ∧ List.length l ≤ n ∧ (0 < List.length l → ∃ ad, A = some ad) ∧ Fs = [jrowF A l c, G'] := by
  have g := good_slices_AppendSeq_int_int w (Un [bkF bx ty cs, G])
  have hml := maxLen_eq
  have hs0 : Sat (cx_slices_AppendSeq_int_int w (Un [bkF bx ty cs, G])) Va.z 0 [] [bkF bx ty cs, G, Rf] w := hm.sat0 rfl (ownM (g := G) hRf)
  refine con_of_sx (cx := cx_slices_AppendSeq_int_int w (Un [bkF bx ty cs, G])) g b_slices_AppendSeq_int_int rfl rfl (β := Va.z) [.c (.v (.slice none 0 0)), .c (.v (.func (.func k) #[] #[.pointer (some ⟨bx, 0, none⟩)]))] 0 [] _ rfl rfl hs0 ?_
  refine range_rule (α := Int) (ι := ColJ) (κ := Unit) g rfl (cv := [.pointer (some ⟨bx, 0, none⟩)]) rfl hcall 1 (Nat.le_refl 1)
    (fun pre i => i.l = pre ∧ pre.length ≤ n ∧ (0 < i.l.length → ∃ ad, i.A = some ad)) (fun i => [⟨0, ty_sl_int, [.v (.slice i.A i.l.length i.c)]⟩]) (fun i => [jrowF i.A i.l i.c]) (fun i => ⟨rfl, trivial⟩)
    (fun _ _ _ => False) (fun _ => []) (fun _ => []) (fun _ => trivial)
    [bkF bx ty cs, G] [Rf] [] ⟨rfl, hG, trivial⟩ (fun g h => by cases h) ⟨none, 0, []⟩ ⟨rfl, Nat.zero_le _, fun h => absurd h (by decide)⟩
    (fun β w hs => ⟨β, Agr.refl _ _, (hs.nilRow ty_int 1).perm [1, 2, 3, 0]⟩) (insKJ n)
    (fun xs Fs' => P xs ∧ Fs' = [G']) (fun _ Fs' => Fs' = [G'])
    (fun l w f0 R J Jx hJ0 hJo hRo hY hm => (hg l w f0 R J Jx hJ0 hJo hRo hY hm).mono fun _ Fs h => h) ?_ ?_ ?_
  · rintro ⟨A, c, l⟩ pre x args X W S' lb bs pn pn' hbs ⟨rfl, hlen, hA⟩ ⟨rfl, rfl, hx⟩
    simp only at hA
    have hx0 : l.length < n := hx
    refine ⟨_, rfl, ?_⟩
    intro b2
    refine ⟨2, l.length, (l ++ [x]).length, l.map (Value.int .i64), [Value.int .i64 x], (l ++ [x]).map (Value.int .i64), rfl, fun β w hs => row_rd (hs.get 0 rfl), fun u hu => by obtain rfl := List.mem_singleton.1 hu; rfl, by simp, by simp, by rw [List.length_append, hml]; show l.length + 1 ≤ _; omega, by rw [List.length_append]; show (l.length + 1) * 8 ≤ _; omega, ?_⟩
    intro A' c' h1 h2 h3
    have e1 : (l ++ [x]).length = l.length + 1 := by rw [List.length_append]; rfl
    refine ⟨⟨A', c', l ++ [x]⟩, ⟨rfl, by rw [e1]; omega, fun _ => ?_⟩, Ent.mk' trivial rfl (fun β w hs => hs.perm [2])⟩
    cases A' with
    | none => exact absurd (h3 rfl).2 (by decide)
    | some ad => exact ⟨ad, rfl⟩
  · rintro xs ⟨A, c, l⟩ Fs ⟨rfl, hlen, hA⟩ ⟨hP, rfl⟩
    simp only at hA
    intro β w' hs
    exact (hs.keepB (List.nil_sublist _)).fin [1, 0] ⟨A, c, l, rfl, hP, hlen, hA, rfl⟩ rfl rfl rfl ⟨rfl, hG', trivial⟩
  · rintro e pre j Fs ⟨⟩
theorem collectM_c (w : World) (k : FuncId) (bx : Nat) (ty : TypeId) (cs : List Value) (G G' Rf : Fact) (n : Nat) (P : List Int → Prop) (hcall : callable Tryz.prog k = true) (hG : G.own = true) (hG' : G'.own = true) (hRf : Rf.own = false) (hn : n ≤ 1000000) (hg : GivesM k bx ty cs G G' Rf n P) (hm : Mem w [bkF bx ty cs, G, Rf]) :
    Con Tryz.prog n_slices_Collect_int #[.func (.func k) #[] #[.pointer (some ⟨bx, 0, none⟩)]] w [bkF bx ty cs, G] fun v Fs => ∃ A c l, v = .slice A (List.length l) c ∧ P l ∧ List.length l ≤ n ∧ (0 < List.length l → ∃ ad, A = some ad) ∧ Fs = [jrowF A l c, G'] := by
  have g := good_slices_Collect_int w (Un [bkF bx ty cs, G])
  have hs0 : Sat (cx_slices_Collect_int w (Un [bkF bx ty cs, G])) Va.z 0 [] [bkF bx ty cs, G, Rf] w := hm.sat0 rfl (ownM (g := G) hRf)
  refine con_of_sx (cx := cx_slices_Collect_int w (Un [bkF bx ty cs, G])) g b_slices_Collect_int rfl rfl (β := Va.z) [.c (.v (.func (.func k) #[] #[.pointer (some ⟨bx, 0, none⟩)]))] 0 [] _ rfl rfl hs0 ?_
  refine call_con [0, 1] (hown := ⟨rfl, hG, trivial⟩) (fun β w' hs => appendM_c w' k bx ty cs G G' Rf n P hcall hG hG' hRf hn hg (hs.mem.take (js := [0, 1, 2]) rfl)) ?_
  rintro v Fs ⟨A, c, l, rfl, hP, hlen, hA, rfl⟩
  intro β w' hs
  exact hs.fin [0, 1] ⟨A, c, l, rfl, hP, hlen, hA, rfl⟩ rfl rfl rfl ⟨rfl, hG', trivial⟩
def mindF (x : Md) (B : Bx.Box) (y : Lay) : Fact := sepF (mdFs x ++ [bxF x.bx B y])
structure BOk (x : Md) (B : Bx.Box) (y : Lay) : Prop where
  lay : y.ts.map (·.1) = B.L
  len : B.L.length ≤ 4096
  sz : ∀ t ∈ B.L, TSz t
  kt : ∀ t ∈ B.L, t.key.length ≤ 70000 ∧ t.text.length ≤ 70000
  sl : ∀ s ∈ x.ss, s.length ≤ 1000000
  ps : x.ps.length ≤ 1000000
def castI (l : List Nat) : List Int := l.map fun n : Nat => (n : Int)
def AllP (x : Md) (B : Bx.Box) (l : List Int) : Prop := ∃ R, Least (ndL x.ss B.L) (marksOf (B.L.length + 1) x.seen) R ∧ l = castI (ones R)
theorem all_it (bx : Nat) (x : Md) (B : Bx.Box) (y : Lay) (hB : BOk x B y) : GivesM n_knows_Mind_All_1 bx ty_ptr_knows_Mind [.pointer (some ⟨x.b, 0, none⟩)] (mindF x B y) (mindF x B y) mlF (B.L.length + 1) (AllP x B) := by
  intro l w f0 R0 J Jx hJ0 hJo hRo hY hm
  have hml := maxLen_eq
  have hBl := hB.len
  have g := good_knows_Mind_All_1 w (Un [f0, bkF bx ty_ptr_knows_Mind [.pointer (some ⟨x.b, 0, none⟩)], mindF x B y]) [bx]
  have hs0 : Sat (cx_knows_Mind_All_1 w (Un [f0, bkF bx ty_ptr_knows_Mind [.pointer (some ⟨x.b, 0, none⟩)], mindF x B y]) [bx]) (Va.of fun _ => bx) 1 [] (f0 :: R0 :: [bkF bx ty_ptr_knows_Mind [.pointer (some ⟨x.b, 0, none⟩)], mindF x B y, mlF]) w := by
    refine hm.sat rfl (fun f hf ho k hk => ?_) ⟨Nat.le_refl 1, fun i hi => by obtain rfl : i = 0 := Nat.lt_one_iff.1 hi; rfl⟩
    simp only [List.mem_cons, List.not_mem_nil, or_false] at hf
    rcases hf with rfl | rfl | rfl | rfl | rfl
    · exact ⟨_, by simp, hk⟩
    · rw [hRo] at ho; cases ho
    · exact ⟨_, by simp, hk⟩
    · exact ⟨_, by simp, hk⟩
    · cases ho
  have hs1 := (hs0.toBk 2 rfl 0 Nat.zero_lt_one rfl).unsep 2 rfl
  refine con_of_sx (cx := cx_knows_Mind_All_1 w (Un [f0, bkF bx ty_ptr_knows_Mind [.pointer (some ⟨x.b, 0, none⟩)], mindF x B y]) [bx]) g b_knows_Mind_All_1 rfl rfl (β := Va.of fun _ => bx) [.c (.v (.func (.yield l) #[] #[])), .c (.p 0 0)] 1 _ _ rfl rfl hs1 ?_
  refine call_con [0, 1, 2, 3] (R := fun v Fs => ∃ D R d, v = .slice D (List.length R) d ∧ (∃ ad, D = some ad) ∧ Least (ndL x.ss B.L) (marksOf (B.L.length + 1) x.seen) R ∧ Fs = mrowF D R d :: (mdFs x ++ [bxF x.bx B y])) (hown := ⟨rfl, rfl, rfl, rfl, trivial⟩) (fun β w' hs => allD_c w' x B y hB.lay hB.len hB.sz hB.kt hB.sl hB.ps (hs.mem.take (js := [0, 1, 2, 3, 6]) rfl)) ?_
  rintro v Fs ⟨D, R, d, rfl, ⟨ad, hD⟩, hR, rfl⟩
  have hRl : R.length = B.L.length + 1 := by rw [hR.1.1, nds_len]
  refine loop_rule (ι := Nat × Fact) 1 (fun j => [(0, .c (.v (.func (.yield l) #[] #[]))), (1, .c (.p 0 0)), (8, .c (.v (.slice D R.length d))), (9, .c (.v (.int .i64 (R.length : Int)))), (10, .c (.v (.int .i64 (j.1 : Int))))]) (fun _ => [⟨0, ty_ptr_knows_Mind, [.v (.pointer (some ⟨x.b, 0, none⟩))]⟩]) (fun j => j.2 :: R0 :: mrowF D R d :: mlF :: (mdFs x ++ [bxF x.bx B y]))
    (fun j => j.1 ≤ R.length ∧ J (castI (onesN R j.1)) j.2) (fun j => R.length - j.1) (0, f0) ⟨Nat.zero_le _, hJ0⟩ (Ent.mk' ⟨rfl, rfl, rfl, rfl, rfl, trivial⟩ rfl (fun β w' hs => hs.perm [5, 6, 0, 7, 1, 2, 3, 4])) g ?_
  rintro ⟨i, f⟩ ⟨hi, hJ⟩
  simp only at hi hJ
  have hfo := hJo _ _ hJ
  simp only
  refine BIf.dec (fun hlt => ?_) (fun hge => ?_)
  · have hlt0 : (i : Int) < (R.length : Int) := hlt
    obtain ⟨b, hb, _⟩ := at_lt (show i < R.length by omega)
    refine ⟨ad, i, hD, rfl, by omega, ?_⟩
    refine ⟨.bool b, fun β w' hs => Rd.cell1 (show Rd 1 (some ad) R.length (R.map Value.bool) w' from hD ▸ row_rd (hs.get 2 rfl)) (by rw [List.getElem?_map, hb]; rfl), ?_⟩
    have hsucc := ones_succ R i
    rw [mark_at hb] at hsucc
    cases b with
    | false =>
      rw [if_neg (by decide)] at hsucc
      refine ⟨((i + 1 : Nat) : Int), by rw [wrap_i64 (by omega) (by omega)]; rfl, ?_⟩
      exact ⟨(i + 1, f), ⟨by show i + 1 ≤ _; omega, by show J (castI (onesN R (i + 1))) f; rw [hsucc]; exact hJ⟩, by show R.length - (i + 1) < R.length - i; omega, Ent.mk' ⟨rfl, rfl, rfl, rfl, rfl, trivial⟩ rfl (fun β w' hs => hs)⟩
    | true =>
      rw [if_pos rfl] at hsucc
      have hx : (castI (onesN R i)).length < B.L.length + 1 := by
        have := onesN_len R i
        unfold castI
        rw [List.length_map]
        omega
      have hcs : castI (onesN R (i + 1)) = castI (onesN R i) ++ [(i : Int)] := by rw [hsucc]; unfold castI; rw [List.map_append]; rfl
      refine yield_ro (X := noF) (x := (i : Int)) hY 0 1 rfl hJ hfo rfl hRo (by decide) (fun β => ⟨rfl, rfl, hx⟩) rfl (fun β w _ => ⟨trivial, fun k hk => hk.elim, fun k _ h => h.elim⟩) ?_ ?_
      · intro f2 hfo2 hJ2
        refine ⟨((i + 1 : Nat) : Int), by rw [wrap_i64 (by omega) (by omega)]; rfl, ?_⟩
        exact ⟨(i + 1, f2), ⟨by show i + 1 ≤ _; omega, by show J (castI (onesN R (i + 1))) f2; rw [hcs]; exact hJ2⟩, by show R.length - (i + 1) < R.length - i; omega, Ent.mk' ⟨rfl, rfl, rfl, rfl, rfl, trivial⟩ rfl (fun β w' hs => hs)⟩
      · intro f2 hfo2 hJ2 β w' hs
        exact ((hs.keepB (List.nil_sublist _)).sep [4, 5, 6, 7] rfl ⟨rfl, rfl, rfl, rfl, trivial⟩).fin [1, 0] ⟨f2, _, rfl, .inr ⟨_, hJ2, rfl⟩⟩ rfl rfl rfl ⟨hfo2, rfl, trivial⟩
  · have hge0 : ¬ (i : Int) < (R.length : Int) := hge
    obtain rfl : i = R.length := by omega
    intro β w' hs
    exact ((hs.keepB (List.nil_sublist _)).sep [4, 5, 6, 7] rfl ⟨rfl, rfl, rfl, rfl, trivial⟩).fin [1, 0] ⟨f, _, rfl, .inl ⟨_, hJ, ⟨R, hR, rfl⟩, rfl⟩⟩ rfl rfl rfl ⟨hfo, rfl, trivial⟩
theorem allA_c (w : World) (b : Nat) : Con Tryz.prog n_knows_Mind_All #[.pointer (some ⟨b, 0, none⟩)] w [] fun v Fs => ∃ bx, v = .func (.func n_knows_Mind_All_1) #[] #[.pointer (some ⟨bx, 0, none⟩)] ∧ Fs = [bkF bx ty_ptr_knows_Mind [.pointer (some ⟨b, 0, none⟩)]] := by
  refine con_of_sx (cx := cx_knows_Mind_All w (Un [])) (good_knows_Mind_All w (Un [])) b_knows_Mind_All rfl rfl (β := Va.z) [.c (.v (.pointer (some ⟨b, 0, none⟩)))] 0 [] [] rfl rfl (Sat.start rfl) ?_
  intro β w' hs
  exact hs.ofBk.fin [0] ⟨β 0, rfl, rfl⟩ rfl rfl rfl ⟨rfl, trivial⟩
theorem collectAll_c (w : World) (bx : Nat) (x : Md) (B : Bx.Box) (y : Lay) (hB : BOk x B y) (hm : Mem w [bkF bx ty_ptr_knows_Mind [.pointer (some ⟨x.b, 0, none⟩)], mindF x B y, mlF]) :
    Con Tryz.prog n_slices_Collect_int #[.func (.func n_knows_Mind_All_1) #[] #[.pointer (some ⟨bx, 0, none⟩)]] w [bkF bx ty_ptr_knows_Mind [.pointer (some ⟨x.b, 0, none⟩)], mindF x B y] fun v Fs => ∃ A c R, v = .slice A (ones R).length c ∧ Least (ndL x.ss B.L) (marksOf (B.L.length + 1) x.seen) R ∧ (ones R).length ≤ B.L.length + 1 ∧ (0 < (ones R).length → ∃ ad, A = some ad) ∧ Fs = [irowF A (ones R) c, mindF x B y] := by
  have hBl := hB.len
  refine (collectM_c w n_knows_Mind_All_1 bx ty_ptr_knows_Mind _ (mindF x B y) (mindF x B y) mlF (B.L.length + 1) (AllP x B) (by kernel_rfl) rfl rfl rfl (by omega) (all_it bx x B y hB) hm).mono ?_
  rintro v Fs ⟨A, c, l, rfl, ⟨R, hR, rfl⟩, hl, hA, rfl⟩
  have e1 : (castI (ones R)).length = (ones R).length := List.length_map _
  have e2 : jrowF A (castI (ones R)) c = irowF A (ones R) c := by
    unfold jrowF
    rw [e1]
    unfold castI
    rw [List.map_map]
    rfl
  rw [e1] at hl hA ⊢
  exact ⟨A, c, R, rfl, hR, hl, hA, by rw [e2]⟩
theorem seeL_le (l : List Nat) (q : Part) : (seeL l q).length ≤ l.length + 2000 := by
  unfold seeL
  have h := setPuts_len (foundS (q.2.1.take 150)) l
  have h2 := foundS_len (q.2.1.take 150)
  have h3 : (q.2.1.take 150).length ≤ 150 := by rw [List.length_take]; omega
  omega
theorem seenL_le : ∀ (ss : List Part) (l : List Nat), (ss.foldl seeL l).length ≤ l.length + 2000 * ss.length
  | [], l => Nat.le_refl _
  | q :: r, l => by
    rw [List.foldl_cons]
    have h := seenL_le r (seeL l q)
    have h2 := seeL_le l q
    rw [List.length_cons]
    omega
theorem secL_ok {ts : List Part} : (secL ts).length ≤ 4 ∧ ∀ s ∈ secL ts, s.length ≤ 10 := by
  refine ⟨?_, fun s hs => ?_⟩
  · unfold secL
    rw [List.length_map, List.length_take]
    omega
  · unfold secL at hs
    obtain ⟨q, _, rfl⟩ := List.mem_map.1 hs
    rw [List.length_take]
    omega
theorem bok_of {x : Md} {B : Bx.Box} {y : Lay} {ts : List Part} (hri : RI B 14) (hy : y.ts.map (·.1) = B.L) (hs : x.ss = secL ts) : BOk x B y := by
  have hl : x.ps.length ≤ 4 := by
    have h1 := congrArg List.length hs
    have h2 := (secL_ok (ts := ts)).1
    unfold Md.ss at h1
    rw [List.length_map] at h1
    omega
  exact ⟨hy, hri.inv.len, hri.inv.sz, fun t ht => by have := hri.sz t ht; omega, fun s q => by rw [hs] at q; have := secL_ok.2 s q; omega, by omega⟩
theorem knowsMore_c (w : World) (A T S P : Option Addr) (c cT cS cP : Nat) (ops : List OpK) (ts ss : List Part) (more : List UInt8) (hA : Rd 6 A ops.length (ops.flatMap OpK.cells) w) (hin : ∀ o ∈ ops, o.ok w) (hn : ops.length ≤ 9223372036854775807)
    (hT : (partF T ts).p w) (hTn : ts.length ≤ 9223372036854775807) (hTc : ∀ q ∈ ts, q.2.1.length ≤ q.2.2) (hS : (partF S ss).p w) (hSn : ss.length ≤ 9223372036854775807) (hSc : ∀ q ∈ ss, q.2.1.length ≤ q.2.2)
    (hP : Bs w P more) (hPc : more.length ≤ cP) (hml : mlF.p w) (hmlt : ∀ k, mlF.D k → k < w.heap.size)
    (h1 : (oddF 2).p w) (h0 : (firstF 0).p w) (h2 : (oddF 3).p w) :
    Con Tryz.prog n_ostiarylaw28_KnowsMore #[.slice A ops.length c, .slice T ts.length cT, .slice S ss.length cS, .slice P more.length cP] w [] fun v Fs => v = .bool true ∧ Fs = [] := by
  have g := good_ostiarylaw28_KnowsMore w (Un [])
  have hmx := maxLen_eq
  have hmind : ∀ {β : Va} {n : Nat} {H : List Bk} {F : List Fact} {w' : World} (T' : Option Addr) (cT' : Nat) (ts' : List Part) (j : Nat), (partF T' ts').p w' → ts'.length ≤ 9223372036854775807 → (∀ q ∈ ts', q.2.1.length ≤ q.2.2) → nth F j = some (oldF w) → Sat (cx_ostiarylaw28_KnowsMore w (Un [])) β n H F w' →
      Con Tryz.prog n_ostiarylaw28_minds #[.slice A ops.length c, .slice T' ts'.length cT', .slice S ss.length cS] w' [] fun v Fs => ∃ (x : Md) (y z : Lay) (m : RM), v = .tuple #[.pointer (some ⟨x.b, 0, none⟩), .pointer (some ⟨m.yb, 0, none⟩)] ∧ RI (runB ops) 14 ∧ y.ts.map (·.1) = (runB ops).L ∧ z.ts.map (·.1) = (runB ops).L ∧ x.ss = secL ts' ∧ x.seen = seenL ss ∧ Fs = mdFs x ++ [bxF x.bx (runB ops) y, rbxF m.rb (runB ops) z] ++ rmFs m := by
    intro β n H F w' T' cT' ts' j hT' hTn' hTc' hj hs
    have ho : (oldF w).p w' := hs.get j hj
    exact minds_c w' A T' S c cT' cS ops ts' ss (Rd.old hA ho) (fun o hq => ⟨⟨Rd.old (hin o hq).1.1 ho, (hin o hq).1.2⟩, Rd.old (hin o hq).2.1 ho, (hin o hq).2.2⟩) hn hT' hTn' hTc' (partF_old hS ho) hSn hSc (Rd.old h1 ho) (Rd.old h0 ho) (Rd.old h2 ho)
  refine con_of_sx (cx := cx_ostiarylaw28_KnowsMore w (Un [])) g b_ostiarylaw28_KnowsMore rfl rfl (β := Va.z) [.c (.v (.slice A ops.length c)), .c (.v (.slice T ts.length cT)), .c (.v (.slice S ss.length cS)), .c (.v (.slice P more.length cP))] 0 [] [oldF w] rfl rfl (old_sat rfl) ?_
  refine call_con [] (fun β w' hs => awake28_c w' ((((hs.fromOld 0 rfl (firstF 0) rfl h0 (rd_lt h0)).fromOld 1 rfl (oddF 2) rfl h1 (rd_lt h1)).fromOld 2 rfl mlF rfl hml hmlt).mem.take (js := [0, 1, 2]) rfl)) ?_
  rintro v Fs ⟨rfl, rfl⟩
  refine call_con [] (fun β w' hs => hmind T cT ts 0 (partF_old hT (hs.get 0 rfl)) hTn hTc rfl hs) ?_
  rintro v Fs ⟨x, y, z, m, rfl, hri, hy, hz, hss, hsn, rfl⟩
  refine call_conS [] (fun β w' hs => hmind none 0 [] 7 ⟨⟨rfl, fun h => absurd h (by decide)⟩, fun q hq => (by cases hq)⟩ (Nat.zero_le _) (fun q hq => (by cases hq)) rfl hs) ?_
  rintro v Fs ⟨x2, y2, z2, m2, rfl, _, hy2, hz2, hss2, hsn2, rfl⟩
  generalize runB ops = B at hri hy hz hy2 hz2 ⊢
  have hB1 : BOk x B y := bok_of hri hy hss
  have hB2 : BOk x2 B y2 := bok_of hri hy2 hss2
  refine ⟨[], [mindF x B y, mindF x2 B y2, rbxF m2.rb B z2, bkF m2.yb ty_ostiaryref28_Mind m2.vs, oldF w], fun β w' hs => (((hs.sep [7, 8, 9, 10] rfl ⟨rfl, rfl, rfl, rfl, trivial⟩).sep [1, 2, 3, 4] rfl ⟨rfl, rfl, rfl, rfl, trivial⟩).perm [1, 0, 2, 3, 8]), ?_⟩
  have hcol : ∀ {β : Va} {n : Nat} {H : List Bk} {F : List Fact} {w' : World} (x : Md) (y : Lay) (bx : Nat) (hB : BOk x B y) (js : List Nat) (j : Nat), nth F j = some (oldF w) → Sat (cx_ostiarylaw28_KnowsMore w (Un [])) β n H F w' → takeIx (mlF :: F) js = [bkF bx ty_ptr_knows_Mind [.pointer (some ⟨x.b, 0, none⟩)], mindF x B y, mlF] → nodupB js = true →
      Con Tryz.prog n_slices_Collect_int #[.func (.func n_knows_Mind_All_1) #[] #[.pointer (some ⟨bx, 0, none⟩)]] w' [bkF bx ty_ptr_knows_Mind [.pointer (some ⟨x.b, 0, none⟩)], mindF x B y] fun v Fs => ∃ A c R, v = .slice A (ones R).length c ∧ Least (ndL x.ss B.L) (marksOf (B.L.length + 1) x.seen) R ∧ (ones R).length ≤ B.L.length + 1 ∧ (0 < (ones R).length → ∃ ad, A = some ad) ∧ Fs = [irowF A (ones R) c, mindF x B y] := by
    intro β n H F w' x y bx hB js j hj hs hjs hnd
    have h := (hs.fromOld j hj mlF rfl hml hmlt).mem.take (js := js) hnd
    rw [hjs] at h
    exact collectAll_c w' bx x B y hB h
  refine call_con [] (fun β w' hs => allA_c w' x.b) ?_
  rintro v Fs ⟨bx, rfl, rfl⟩
  refine call_con [0, 1] (hown := ⟨rfl, rfl, trivial⟩) (fun β w' hs => hcol x y bx hB1 [1, 2, 0] 5 rfl hs rfl rfl) ?_
  rintro v Fs ⟨A3, c3, R, rfl, hR, hRl, hRa, rfl⟩
  obtain ⟨t0, ht0⟩ : ∃ t0, more.take 150 = t0 := ⟨_, rfl⟩
  have hl150 : t0.length ≤ 150 := by rw [← ht0, List.length_take]; omega
  refine call_conS [] (fun β w' hs => cutC w' P more cP 150 (Rd.old hP (hs.get 5 rfl)) hPc (by decide)) ?_
  rintro v Fs ⟨A4, c4, rfl, q4, _, rfl⟩
  rw [ht0] at q4 ⊢
  refine ⟨[], mdFs x ++ [bxF x.bx B y, browF ty_uint8 A4 t0 c4, irowF A3 (ones R) c3, mindF x2 B y2, rbxF m2.rb B z2, bkF m2.yb ty_ostiaryref28_Mind m2.vs, oldF w], fun β w' hs => hs.unsep 2 rfl, ?_⟩
  obtain ⟨sn, hsn'⟩ : ∃ sn, (foundS t0).foldl setPut x.seen = sn := ⟨_, rfl⟩
  have hsub : ∀ n ∈ x.seen, n ∈ sn := fun n h => by rw [← hsn']; exact mem_setPuts.2 (.inl h)
  have hx'l : sn.length ≤ 100000 := by
    have a1 := setPuts_len (foundS t0) x.seen
    have a2 := foundS_len t0
    have a3 := seenL_le (ss.take 5) []
    have a4 : (ss.take 5).length ≤ 5 := by rw [List.length_take]; omega
    rw [hsn', hsn] at a1
    unfold seenL at a1
    have a5 : ([] : List Nat).length = 0 := rfl
    omega
  have hB1' : BOk { x with seen := sn } B y := bok_of hri hy hss
  refine call_conS [0, 1, 2] (R := fun v Fs => v = .tuple #[] ∧ Fs = mdFs { x with seen := sn }) (hown := ⟨rfl, rfl, rfl, trivial⟩) (fun β w' hs => by
    have h3 := See_c w' x A4 t0 c4 (by omega) q4 ((hs.ro 4 rfl).mem.take (js := [0, 1, 2, 4]) rfl)
    rw [hsn'] at h3
    exact h3) ?_
  rintro v Fs ⟨rfl, rfl⟩
  refine ⟨[], [mindF { x with seen := sn } B y, irowF A3 (ones R) c3, mindF x2 B y2, rbxF m2.rb B z2, bkF m2.yb ty_ostiaryref28_Mind m2.vs, oldF w], fun β w' hs => (hs.sep [0, 1, 2, 3] rfl ⟨rfl, rfl, rfl, rfl, trivial⟩).perm [0, 2, 3, 4, 5, 6], ?_⟩
  refine call_con [] (fun β w' hs => allA_c w' x.b) ?_
  rintro v Fs ⟨bx', rfl, rfl⟩
  refine call_con [0, 1] (hown := ⟨rfl, rfl, trivial⟩) (fun β w' hs => hcol { x with seen := sn } y bx' hB1' [1, 2, 0] 6 rfl hs rfl rfl) ?_
  rintro v Fs ⟨A5, c5, R5, rfl, hR5, hR5l, hR5a, rfl⟩
  refine call_con [] (fun β w' hs => allA_c w' x2.b) ?_
  rintro v Fs ⟨bx2, rfl, rfl⟩
  refine call_conS [0, 4] (hown := ⟨rfl, rfl, trivial⟩) (fun β w' hs => hcol x2 y2 bx2 hB2 [1, 5, 0] 7 rfl hs rfl rfl) ?_
  rintro v Fs ⟨A6, c6, R6, rfl, hR6, hR6l, hR6a, rfl⟩
  refine ⟨[], [irowF A6 (ones R6) c6, irowF A5 (ones R5) c5, irowF A3 (ones R) c3] ++ mdFs { x with seen := sn } ++ [rbxF m2.rb B z2, bkF m2.yb ty_ostiaryref28_Mind m2.vs], fun β w' hs => (hs.unsep 3 rfl).perm [4, 6, 7, 0, 1, 2, 8, 9], ?_⟩
  have hss2' : x2.ss = [] := hss2
  rw [hss2'] at hR6
  have hsnx : x2.seen = x.seen := by rw [hsn, hsn2]
  rw [hsnx] at hR6
  have hle5 : Le R R5 := least_more hsub hR hR5
  have hle6 : Le R R6 := least_few hR hR6
  have hkn : ∀ n ∈ sn, n ≤ B.L.length → n ∈ ones R5 := fun n h hl => mem_ones.2 (hR5.2.1.2 n (marksOf_iff.2 ⟨by omega, h⟩))
  have hBl := hri.len
  refine loop_rule (ι := Nat) 0 (fun j => [(9, .c (.v (.pointer (some ⟨x.b, 0, none⟩)))), (12, .c (.v (.pointer (some ⟨m2.yb, 0, none⟩)))), (14, .c (.v (.slice A5 (ones R5).length c5))), (15, .c (.v (.slice A6 (ones R6).length c6))), (48, .c (.v (.slice A3 (ones R).length c3))), (49, .c (.v (.int .i64 ((ones R).length : Int)))), (50, .c (.v (.int .i64 (j : Int))))]) (fun _ => []) (fun _ => [irowF A6 (ones R6) c6, irowF A5 (ones R5) c5, irowF A3 (ones R) c3] ++ mdFs { x with seen := sn } ++ [rbxF m2.rb B z2, bkF m2.yb ty_ostiaryref28_Mind m2.vs])
    (fun j => j ≤ (ones R).length) (fun j => (ones R).length - j) 0 (Nat.zero_le _) (Ent.mk' ⟨rfl, rfl, rfl, rfl, rfl, rfl, rfl, trivial⟩ rfl (fun β w' hs => hs)) g ?_
  intro i hi
  refine BIf.dec (fun hlt => ?_) (fun hge => ?_)
  · have hlt0 : (i : Int) < ((ones R).length : Int) := hlt
    obtain ⟨n, hn1, hnm⟩ := at_lt (show i < (ones R).length by omega)
    obtain ⟨ad, hA3⟩ := hRa (by omega)
    refine ⟨ad, i, hA3, rfl, by omega, .int .i64 (n : Int), fun β w' hs => Rd.cell1 (show Rd 1 (some ad) (ones R).length (ints (ones R)) w' from hA3 ▸ row_rd (hs.get 2 rfl)) (by simp [ints, hn1]), ?_⟩
    have hn5 : n ∈ ones R5 := mem_ones.2 (hle5.2 n (mem_ones.1 hnm))
    have hn6 : n ∈ ones R6 := mem_ones.2 (hle6.2 n (mem_ones.1 hnm))
    refine call_pu (v := .bool true) (fun β w' hs => by
      have h := containsI_c w' A5 (ones R5) c5 n (row_rd (hs.get 1 rfl)) (by omega)
      rw [decide_eq_true hn5] at h
      exact h) ?_
    refine call_pu (v := .bool true) (fun β w' hs => by
      have h := containsI_c w' A6 (ones R6) c6 n (row_rd (hs.get 0 rfl)) (by omega)
      rw [decide_eq_true hn6] at h
      exact h) ?_
    refine ⟨((i + 1 : Nat) : Int), by rw [wrap_i64 (by omega) (by omega)]; rfl, ?_⟩
    exact ⟨i + 1, by omega, by omega, Ent.mk' ⟨rfl, rfl, rfl, rfl, rfl, rfl, rfl, trivial⟩ rfl (fun β w' hs => hs)⟩
  refine call_con [3, 4, 5] (R := fun v Fs => ∃ A c, v = .slice A (sortN sn).length c ∧ Fs = irowF A (sortN sn) c :: mdFs { x with seen := sn }) (hown := ⟨rfl, rfl, rfl, trivial⟩) (fun β w' hs => known_c w' { x with seen := sn } (by show sn.length ≤ _; omega) (hs.mem.take (js := [3, 4, 5]) rfl)) ?_
  rintro v Fs ⟨A7, c7, rfl, rfl⟩
  have hkl : (sortN sn).length ≤ 100000 := by rw [sortN_len]; exact hx'l
  have hkm : ∀ n ∈ sortN sn, n ∈ sn := fun n h => by unfold sortN at h; exact List.mem_mergeSort.1 h
  generalize sortN sn = kn at hkl hkm ⊢
  refine tri_know (p := 0 < kn.length → ∃ ad, A7 = some ad) (fun β w' hs h => by
    obtain ⟨ad, q, _⟩ := (row_rd (hs.get 0 rfl : (irowF A7 kn c7).p w')).2 h
    exact ⟨ad, q⟩) ?_
  intro hA7
  refine loop_rule (ι := Nat) 0 (fun j => [(12, .c (.v (.pointer (some ⟨m2.yb, 0, none⟩)))), (14, .c (.v (.slice A5 (ones R5).length c5))), (66, .c (.v (.slice A7 kn.length c7))), (67, .c (.v (.int .i64 (kn.length : Int)))), (68, .c (.v (.int .i64 (j : Int))))]) (fun _ => []) (fun _ => [irowF A7 kn c7, irowF A5 (ones R5) c5, rbxF m2.rb B z2, bkF m2.yb ty_ostiaryref28_Mind m2.vs])
    (fun j => j ≤ kn.length) (fun j => kn.length - j) 0 (Nat.zero_le _) (Ent.mk' ⟨rfl, rfl, rfl, rfl, rfl, trivial⟩ rfl (fun β w' hs => hs.perm [0, 5, 7, 8])) g ?_
  intro i' hi'
  refine BIf.dec (fun hlt => ?_) (fun hge => ?_)
  · have hlt0 : (i' : Int) < (kn.length : Int) := hlt
    obtain ⟨n, hn1, hnm⟩ := at_lt (show i' < kn.length by omega)
    obtain ⟨ad, hAd⟩ := hA7 (by omega)
    refine ⟨ad, i', hAd, rfl, by omega, .int .i64 (n : Int), fun β w' hs => Rd.cell1 (show Rd 1 (some ad) kn.length (ints kn) w' from hAd ▸ row_rd (hs.get 0 rfl)) (by simp [ints, hn1]), ?_⟩
    refine ⟨ptrB m2.rb, fun β w' hs => bk_cell (hs.get 3 rfl) (o := 0) rfl, ?_⟩
    refine ⟨.slice z2.A B.L.length z2.c, fun β w' hs => bk_cell (rbx_bk (hs.get 2 rfl)) (o := 1) rfl, ?_⟩
    refine BIf.dec (fun hle => ?_) (fun hgt => ?_)
    · have hle0 : (n : Int) ≤ (B.L.length : Int) := hle
      have hn5 : n ∈ ones R5 := hkn n (hkm n hnm) (by omega)
      refine call_pu (v := .bool true) (fun β w' hs => by
        have h := containsI_c w' A5 (ones R5) c5 n (row_rd (hs.get 1 rfl)) (by omega)
        rw [decide_eq_true hn5] at h
        exact h) ?_
      refine ⟨((i' + 1 : Nat) : Int), by rw [wrap_i64 (by omega) (by omega)]; rfl, ?_⟩
      exact ⟨i' + 1, by omega, by omega, Ent.mk' ⟨rfl, rfl, rfl, rfl, rfl, trivial⟩ rfl (fun β w' hs => hs)⟩
    · refine ⟨((i' + 1 : Nat) : Int), by rw [wrap_i64 (by omega) (by omega)]; rfl, ?_⟩
      exact ⟨i' + 1, by omega, by omega, Ent.mk' ⟨rfl, rfl, rfl, rfl, rfl, trivial⟩ rfl (fun β w' hs => hs)⟩
  intro β w' hs
  exact hs.fin [] ⟨rfl, rfl⟩
theorem scriptK_of {w : World} {m : Nat} {A : Option Addr} {n c : Nat} (ho : Opens Tryz.prog w m ty_sl_ostiarylaw28_Op [.slice A n c]) : ∃ ops : List OpK, ops.length = n ∧ Rd 6 A ops.length (ops.flatMap OpK.cells) w ∧ (∀ o ∈ ops, o.ok w) ∧ n ≤ maxLen := by
  obtain ⟨A', n', c', xs, m2, hcs, h1, h2, hxl, hnil, hlen, hr, hx⟩ := ho.slice ((ok63).real (d := .slice ty_ostiarylaw28_Op) rfl rfl)
  simp only [List.cons.injEq, and_true] at hcs
  injection hcs with e1 e2 e3
  subst e1 e2 e3
  have cO : Tryz.prog.cellsOf ty_ostiarylaw28_Op = 6 := by kernel_rfl
  have cU : Tryz.prog.cellsOf ty_uint8 = 1 := by kernel_rfl
  have cI : Tryz.prog.cellsOf ty_int = 1 := by kernel_rfl
  have cB : Tryz.prog.cellsOf ty_bool = 1 := by kernel_rfl
  have cS : Tryz.prog.cellsOf ty_sl_uint8 = 1 := by kernel_rfl
  obtain ⟨ops, hol, hfl, hok⟩ := list_choose (f := OpK.cells) (p := OpK.ok w) (xs := xs) (fun x hxm => by
    obtain ⟨m3, hl, hf⟩ := (hx x hxm).structT (ok138) rfl
    have f0 := hf 0 0 1 ty_uint8 rfl rfl
    have f1 := hf 1 1 1 ty_int rfl rfl
    have f2 := hf 2 2 1 ty_int rfl rfl
    have f3 := hf 3 3 1 ty_sl_uint8 rfl rfl
    have f4 := hf 4 4 1 ty_sl_uint8 rfl rfl
    have f5 := hf 5 5 1 ty_bool rfl rfl
    rw [cO] at hl
    rw [cU] at f0
    rw [cI] at f1 f2
    rw [cS] at f3 f4
    rw [cB] at f5
    obtain ⟨x0, r0, rfl, k0⟩ := len_cons hl
    obtain ⟨x1, r1, rfl, k1⟩ := len_cons k0
    obtain ⟨x2, r2, rfl, k2⟩ := len_cons k1
    obtain ⟨x3, r3, rfl, k3⟩ := len_cons k2
    obtain ⟨x4, r4, rfl, k4⟩ := len_cons k3
    obtain ⟨x5, r5, rfl, k5⟩ := len_cons k4
    obtain rfl := List.eq_nil_of_length_eq_zero k5
    obtain ⟨d, hd⟩ := f0.u8 ((ok5).real (d := .int .u8) rfl rfl)
    obtain ⟨p, hp, _, _⟩ := f1.int ((ok3).real (d := .int .i64) rfl rfl)
    obtain ⟨q, hq, _, _⟩ := f2.int ((ok3).real (d := .int .i64) rfl rfl)
    obtain ⟨K, key, cK, hK, j1, _, j2⟩ := f3.bytes ((ok22).real (d := .slice ty_uint8) rfl rfl) ((ok5).real (d := .int .u8) rfl rfl) cU
    obtain ⟨X, text, cX, hX, j3, _, j4⟩ := f4.bytes ((ok22).real (d := .slice ty_uint8) rfl rfl) ((ok5).real (d := .int .u8) rfl rfl) cU
    obtain ⟨own, hw⟩ := f5.bool ((ok4).real (d := .bool) rfl rfl)
    simp at hd hp hq hK hX hw
    subst hd hp hq hK hX hw
    exact ⟨⟨d, p, q, K, key, cK, X, text, cX, own⟩, rfl, ⟨j2, j1⟩, ⟨j4, j3⟩⟩)
  rw [cO, hfl] at hr
  rw [← hxl, ← hol] at hr
  exact ⟨ops, hol.trans hxl, hr, hok, Nat.le_trans h1 h2⟩
end Go.Proofs.YtoifclfanabalaaGreatDoor.Sx

namespace Go.Proofs.YtoifclfanabalaaGreatDoor.Sx
open Go
def RoOk (w : World) (f : Fact) : Prop := f.own = false ∧ f.p w ∧ ∀ k, f.D k → k < w.heap.size
end Go.Proofs.YtoifclfanabalaaGreatDoor.Sx

namespace Go.Proofs.YtoifclfanabalaaGreatDoor.Sx
open Go
attribute [local irreducible] Calls
theorem Opens.parts {P : Program} {w : World} {fuel : Nat} {t e u : TypeId} {cs : List Value} (h : Opens P w fuel t cs) (ht : P.underlying t = some (.slice e)) (he : P.underlying e = some (.slice u)) (hu : P.underlying u = some (.int .u8)) (hcu : P.cellsOf u = 1) (hce : P.cellsOf e = 1) :
    ∃ (A : Option Addr) (ps : List Part) (c : Nat), cs = [.slice A ps.length c] ∧ ps.length ≤ maxLen ∧ (∀ q ∈ ps, q.2.1.length ≤ q.2.2) ∧ (partF A ps).p w := by
  obtain ⟨A, n, c, xs, m, rfl, h1, h2, rfl, _, _, hr, hx⟩ := h.slice ht
  obtain ⟨ps, hpl, hp, hq⟩ := list_choose (f := fun q : Part => [partV q]) (p := fun q : Part => q.2.1.length ≤ q.2.2 ∧ Bs w q.1 q.2.1) (xs := xs) (fun x hx' => by
    obtain ⟨B, p, d, hcs, h3, _, h4⟩ := (hx x hx').bytes he hu hcu
    exact ⟨(B, p, d), hcs, h3, h4⟩)
  have hf : ps.flatMap (fun q => [partV q]) = ps.map partV := flat_one partV ps
  rw [hce, hp, hf] at hr
  rw [← hpl] at hr h1 ⊢
  exact ⟨A, ps, c, rfl, by omega, fun q hq' => (hq q hq').1, hr, fun q hq' => (hq q hq').2⟩
end Go.Proofs.YtoifclfanabalaaGreatDoor.Sx

namespace Go.Proofs.YtoifclfanabalaaGreatDoor.Sx
open Go
theorem handed_shaped {H : Type} {enc : TypeId × Value → H} {a : Assume} {C : Checked} {os : Os} {f : FuncId} {fn : Func} {s : ChangeSpec} {conds : List PathCond} {apart fresh handsOn again : Bool} {X : World → Array Value → Prop}
    (hX : ∀ (w w' : World) (args : Array Value), w.heap = w'.heap → X w args → X w' args)
    (own : ownKnob C.prog.godebug = none) (started : os.Started) (noInit : C.prog.inits.idxOf? f = none) (hfn : C.prog.funcs[f]? = some fn)
    (witness : ∃ (w : World) (tape : Tape) (i : Input), w.os = os ∧ (w.forCall tape i).Shaped C.prog ∧ i.vars = [] ∧ Input.okWide C.prog (w.forCall tape i) .any w.heap.size f i ∧
      ((s.pre enc C.prog fn conds apart (w.forCall tape i).memory i.args ∧ X (w.forCall tape i).memory i.args) ∧ sizedMet enc C.prog fn (OpenSpec.ofChange s) apart (w.forCall tape i).memory i.args) ∧ a.holds C.prog (lone (Frame.enter C.prog f i.args .normal) [] (w.forCall tape i)))
    (key : ∀ (W : World) (base : Nat) (args : Array Value) (ds gs : List (DataW H)) (before : List MemPlace),
      (∀ (j : Nat) t v, fn.params[j]? = some t → args[j]? = some v → Value.okWide C.prog W .any base t v) →
      DataW.Whole enc C.prog fn.params.toList s.vars apart W args.toList ds gs before → X W args → W.ShapedOpen C.prog →
      Calls C.prog f args W fun e W' => ∃ v, e = .returned v ∧ s.post enc C.prog fn apart fresh handsOn again W args v W') :
    ReturnsInHanded a C os f .any (fun w args => (s.pre enc C.prog fn conds apart w args ∧ X w args) ∧ sizedMet enc C.prog fn (OpenSpec.ofChange s) apart w args) (s.post enc C.prog fn apart fresh handsOn again) := by
  refine returnsInHanded_of_calls own started noInit witness (fun w tape i _ hshape _ hin hp _ => ?_)
  obtain ⟨_, _, _, fn2, hfn2, _, _, _, _, hvals⟩ := hin
  obtain rfl : fn2 = fn := Option.some.inj (hfn2.symm.trans hfn)
  obtain ⟨⟨⟨ds, gs, before, hwh, _⟩, hx⟩, _⟩ := hp
  refine (key (w.forCall tape i) w.heap.size i.args ds gs before hvals (DataW.Whole.of_heap (w' := w.forCall tape i) (by rfl) hwh) (hX _ _ _ (by rfl) hx) hshape).mono fun e W' ⟨v, he, hq⟩ => ?_
  subst he
  exact ChangeSpec.post_blind hq
theorem ml_of {w : World} (h : w.ShapedOpen Tryz.prog) : mlF.p w :=
  cell_of_shapedOpen_int (P := Tryz.prog) (g := 1) (t := ty_int) (zero := #[.int .i64 0]) h (of_decide_eq_true (by kernel_rfl)) (by kernel_rfl) rfl (by kernel_rfl) (by kernel_rfl) (ok3.real (d := .int .i64) rfl rfl)
theorem ml_ok {w : World} (h : mlF.p w) : RoOk w mlF := by
  refine ⟨rfl, h, fun k hk => ?_⟩
  obtain ⟨m, hm⟩ := h
  obtain rfl : k = 1 := hk
  unfold World.cell? at hm
  rcases Nat.lt_or_ge 1 w.heap.size with q | q
  · exact q
  · simp [Array.getElem?_eq_none q] at hm
end Go.Proofs.YtoifclfanabalaaGreatDoor.Sx

namespace Go.Proofs.YtoifclfanabalaaGreatDoor.Sx
open Go Go.RowKit
theorem below_of {w w' : World} (h : Chg None_ w w') : Below w.heap.size w w' :=
  ⟨h.os, h.tape, h.output, h.size, fun k hk => h.same k hk (fun q => q)⟩
end Go.Proofs.YtoifclfanabalaaGreatDoor.Sx

namespace Go.Proofs.YtoifclfanabalaaGreatDoor.Sx
open Go
theorem rd_of_ints {H : Type} {enc : TypeId × Value → H} {P : Program} {W : World} {base : Nat} {sp : Nat → Bool} {held : Bool} {fuel g n : Nat} {t e : TypeId} {k : IntKind} {cs : Array Value} {zs : List Int} {q : List MemPlace}
    (ht : P.underlying t = some (.array n e)) (he : P.underlying e = some (.int k)) (hc : P.cellsOf e = 1) (hd : DataW.trod enc P W base sp held fuel t cs.toList = some (.agg (zs.map fun z => .lit (.int k z)), q)) (hcell : ∀ j, W.cell? ⟨g, j, none⟩ = cs[j]?) :
    Rd 1 (some ⟨g, 0, none⟩) zs.length (zs.map (Value.int k)) W := by
  obtain ⟨xs, m, _, hx, hlen, hn, hel⟩ := DataW.trod_array ht hd
  simp only [Prod.mk.injEq, DataW.agg.injEq] at hx
  have hzn : zs.length = n := by
    have h9 := congrArg List.length hx.1
    simp only [List.length_map] at h9
    omega
  refine ⟨by simp, fun hp => ⟨_, rfl, fun j u hu => ?_⟩⟩
  rw [List.getElem?_map] at hu
  obtain ⟨z, hz, rfl⟩ := Option.map_eq_some_iff.1 hu
  have hj : j < zs.length := (List.getElem?_eq_some_iff.1 hz).1
  have h1 := hel j (by omega)
  have h2 : (xs.map (·.1))[j]? = some (.lit (.int k z)) := by rw [← hx.1, List.getElem?_map, hz]; rfl
  rw [List.getElem?_map] at h2
  obtain ⟨x, hxj, hx1⟩ := Option.map_eq_some_iff.1 h2
  rw [hxj, hc, Nat.mul_one] at h1
  obtain ⟨y, e1, e2, _⟩ := DataW.trod_int he h1
  have hy : y = z := by
    rw [e2] at hx1
    simpa using hx1
  subst hy
  rw [add_none, Nat.zero_add, hcell j, ← Array.getElem?_toList]
  have h3 := congrArg (fun l => l[0]?) e1
  simpa [List.getElem?_drop] using h3
abbrev u32s (l : List UInt32) : List Int := l.map fun x => (x.toNat : Int)
theorem rd_u32 {g : Nat} {W : World} {l : List UInt32} (h : Rd 1 (some ⟨g, 0, none⟩) (u32s l).length ((u32s l).map (Value.int .u32)) W) : Rd 1 (some ⟨g, 0, none⟩) l.length (l.map u32) W := by
  have e : (u32s l).map (Value.int .u32) = l.map u32 := by rw [List.map_map]; rfl
  rw [e, List.length_map] at h
  exact h
end Go.Proofs.YtoifclfanabalaaGreatDoor.Sx

namespace Go.Proofs.YtoifclfanabalaaGreatDoor.Sx
open Go
section
variable {H : Type} {enc : TypeId × Value → H} {P : Program} {w : World} {base : Nat} {sp : Nat → Bool} {held : Bool}
end
end Go.Proofs.YtoifclfanabalaaGreatDoor.Sx
