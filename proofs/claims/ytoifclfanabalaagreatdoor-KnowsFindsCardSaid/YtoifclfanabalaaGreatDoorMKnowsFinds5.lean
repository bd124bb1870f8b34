/- Texts joined: Ks1, TrR, Ks2, KsL, Tl11, Ks3, Ks4, Ks5, SxClr, Ks6, Ks7, Ks8, Ks9, Ka1, Rk8, NmT, RHx, Rkb, Rkc, EqJ, EqS, BxL, Ka2, Rkd, TabR, Hnd, SxArg, Laid, Laid2. -/
import Derived.Test.YtoifclfanabalaaGreatDoorMKnowsFinds4
import Derived.Test.YtoifclfanabalaaGreatDoorMKnowsFinds3
import Derived.Test.YtoifclfanabalaaGreatDoorMKnowsFinds2
import Derived.Handed
import Derived.Shelf.Vars
import Derived.Below
import Derived.OpenShut
import Derived.ChangeArms
import Derived.LaidMore
set_option linter.unusedVariables false
set_option linter.unusedSimpArgs false
/- A mind is made. -/
namespace Go.Proofs.YtoifclfanabalaaGreatDoor.Sx
open Go
attribute [local irreducible] Calls

theorem bsD_brow {e : Nat} {A : Option Addr} {l : List UInt8} {c k : Nat} (h : (bsF A l).D k) : (browF e A l c).D k := by
  obtain ⟨_, ad, rfl, rfl⟩ := h
  rfl
/-- Copies of one's own. -/
def ownF (qs : List Part) : Fact where
  own := true
  D := fun k => ∃ q ∈ qs, (browF ty_uint8 q.1 q.2.1 q.2.2).D k
  p := fun w => ∀ q ∈ qs, Bs w q.1 q.2.1
  st := fun w w' hs h q hq => (bsF q.1 q.2.1).st w w' (fun k hk => hs k ⟨q, hq, bsD_brow hk⟩) (h q hq)
structure NwS where
  A : Option Addr
  c : Nat
  qs : List Part
theorem knowsNew_c (w : World) (bx : Nat) (B : Bx.Box) (y : Lay) (P : Option Addr) (ps : List Part) (cP : Nat) (hB : B.sym = true) (hp : ps.length ≤ 1000) (hps : ∀ q ∈ ps, q.2.1.length ≤ 1000 ∧ q.2.1.length ≤ q.2.2) (hm : Mem w [bxF bx B y, partF P ps]) :
    Con Tryz.prog n_knows_New #[ptrB bx, .slice P ps.length cP] w [bxF bx B y] fun v Fs => ∃ x : Md, v = .tuple #[.pointer (some ⟨x.b, 0, none⟩), .int .i64 0] ∧ x.bx = bx ∧ x.ss = ps.map (·.2.1) ∧ x.seen = [] ∧ Fs = mdFs x ++ [bxF bx B y] := by
  have g := good_knows_New w (Un [bxF bx B y])
  have hs0 : Sat (cx_knows_New w (Un [bxF bx B y])) Va.z 0 [] [bxF bx B y, partF P ps] w := hm.sat0 rfl (fun f hf ho k hk => by
    rcases List.mem_cons.1 hf with rfl | hf
    · exact ⟨_, List.mem_singleton.2 rfl, hk⟩
    · obtain rfl := List.mem_singleton.1 hf; cases ho)
  refine con_of_sx (cx := cx_knows_New w (Un [bxF bx B y])) g b_knows_New rfl rfl (β := Va.z) [.c (.v (ptrB bx)), .c (.v (.slice P ps.length cP))] 0 [] _ rfl rfl hs0 ?_
  have hml := maxLen_eq
  refine call_pu (fun β w' hs => symX_c w' bx B y (hs.get 0 rfl) (fun k hk => hs.flt _ (List.mem_of_getElem? (i := 0) rfl) k hk)) ?_
  rw [hB]
  intro b1
  refine loop_rule (ι := Nat × NwS) 1 (fun j => [(6, .c (.p 0 0)), (16, .c (.v (.slice P ps.length cP))), (17, .c (.v (.int .i64 (ps.length : Int)))), (18, .c (.v (.int .i64 (j.1 : Int))))]) (fun j => [⟨0, ty_knows_Mind, [.v (ptrB bx), .v (.slice j.2.A j.2.qs.length j.2.c), .v (.map (some b1))]⟩])
    (fun j => [mapIF .i64 b1 [], bxF bx B y, partF P ps, rowF ty_sl_uint8 1 (.slice j.2.A j.2.qs.length j.2.c) j.2.qs.length (j.2.qs.map partV), ownF j.2.qs])
    (fun j => j.1 ≤ ps.length ∧ j.2.qs.map (·.2.1) = (ps.take j.1).map (·.2.1)) (fun j => ps.length - j.1) (0, ⟨none, 0, []⟩) ⟨Nat.zero_le _, rfl⟩ (Ent.mk' ⟨rfl, rfl, rfl, rfl, trivial⟩ rfl (fun β w' hs => ?_)) g ?_
  · exact (((hs.nilRow ty_sl_uint8 1).emptyJ 1 rfl).fuse [] (ownF []) (fun w _ q h => by cases h) (fun k ⟨q, h, _⟩ => by cases h)).perm [2, 3, 4, 1, 0]
  rintro ⟨j, SA, sc, qs⟩ ⟨hj, hqs⟩
  simp only at hj hqs
  have hql : qs.length = j := by
    have := congrArg List.length hqs
    rw [List.length_map, List.length_map, List.length_take] at this
    omega
  refine BIf.dec (fun hlt => ?_) (fun hge => ?_)
  · have hlt0 : (j : Int) < (ps.length : Int) := hlt
    obtain ⟨q, hq, hqm⟩ := at_lt (show j < ps.length by omega)
    obtain ⟨ad, hP⟩ : ∃ ad, P = some ad := by
      obtain ⟨ad, h, _⟩ := ((show (partF P ps).p w from hm.fact (partF P ps) (by simp)).1).2 (by omega)
      exact ⟨ad, h⟩
    refine ⟨ad, j, hP, rfl, by omega, ?_⟩
    refine ⟨partV q, fun β w' hs => Rd.cell1 (show Rd 1 (some ad) ps.length (ps.map partV) w' from hP ▸ (show (partF P ps).p w' from hs.get 2 rfl).1) (by rw [List.getElem?_map, hq]; rfl), ?_⟩
    obtain ⟨Q, l, c⟩ := q
    have hq1 := hps _ hqm
    simp only at hq1
    refine draw_rule g p_knows_New_7 (by kernel_rfl) [⟨0, ty_knows_Mind, [.v (ptrB bx), .v (.slice SA qs.length sc), .v (.map (some b1))]⟩] [] (Sub.of (List.Sublist.refl _) (List.nil_sublist _)) ?_
    refine call_con [] (fun β w' hs => clone_c w' Q l c ((show (partF P ps).p w' from hs.get 2 rfl).2 _ hqm) (by omega)) ?_
    rintro v Fs ⟨A', c', rfl, hc1, hc2, rfl⟩
    refine ⟨subPerm [], ?_⟩
    intro b2
    refine ⟨subPerm [], ?_⟩
    obtain ⟨qs', hq'⟩ : ∃ qs', qs' = qs ++ [((A', l, c') : Part)] := ⟨_, rfl⟩
    have hql' : qs.length + 1 = qs'.length := by rw [hq', List.length_append]; rfl
    refine ⟨5, qs.length, qs'.length, qs.map partV, [partV (A', l, c')], qs'.map partV, rfl, fun β w' hs => row_rd (hs.get 0 rfl), fun u hu => by obtain rfl := List.mem_singleton.1 hu; rfl, hql', by rw [hq', List.map_append]; rfl, by rw [hml]; omega, by show qs'.length * 24 ≤ _; omega, ?_⟩
    intro A2 c2 r1 r2 r3
    refine ⟨subPerm [], ?_⟩
    refine ⟨subPerm [], ?_⟩
    refine ⟨(((j + 1) : Nat) : Int), by rw [wrap_i64 (by omega) (by omega)]; rfl, ?_⟩
    refine ⟨(j + 1, ⟨A2, c2, qs'⟩), ⟨by show j + 1 ≤ _; omega, ?_⟩, by show ps.length - (j + 1) < ps.length - j; omega, Ent.mk' ⟨rfl, rfl, rfl, rfl, trivial⟩ rfl (fun β w hs => ?_)⟩
    · show qs'.map (·.2.1) = (ps.take (j + 1)).map (·.2.1)
      rw [hq', List.take_add_one, hq, List.map_append, List.map_append, hqs]
      rfl
    · refine (hs.fuse [6, 1] (ownF qs') (fun w hm => ?_) (fun k hk => ?_)).perm [2, 3, 4, 5, 0]
      · intro q0 h0
        rw [hq'] at h0
        rcases List.mem_append.1 h0 with h0 | h0
        · exact (show (ownF qs).p w from hm.fact (ownF qs) (show ownF qs ∈ [ownF qs, browF ty_uint8 A' l c'] from List.mem_cons_self)) q0 h0
        · obtain rfl := List.mem_singleton.1 h0
          exact row_rd (hm.fact (browF ty_uint8 A' l c') (show browF ty_uint8 A' l c' ∈ [ownF qs, browF ty_uint8 A' l c'] from List.mem_cons_of_mem _ (List.mem_singleton.2 rfl)))
      · obtain ⟨q0, h0, hk⟩ := hk
        rw [hq'] at h0
        rcases List.mem_append.1 h0 with h0 | h0
        · exact ⟨ownF qs, List.mem_cons_self, q0, h0, hk⟩
        · obtain rfl := List.mem_singleton.1 h0
          exact ⟨browF ty_uint8 A' l c', List.mem_cons_of_mem _ (List.mem_singleton.2 rfl), hk⟩
  · have hge0 : ¬ (j : Int) < (ps.length : Int) := hge
    have ht : ps.take j = ps := List.take_of_length_le (by omega)
    rw [ht] at hqs
    intro β w' hs
    have h2 := (hs.fuse [3, 4] (secsF SA qs) (fun w hm => ⟨row_rd (hm.fact (rowF ty_sl_uint8 1 (.slice SA qs.length sc) qs.length (qs.map partV)) (by simp [takeIx, nth])), hm.fact (ownF qs) (by simp [takeIx, nth])⟩) (fun k hk => by
      rcases hk with ⟨_, ad, rfl, rfl⟩ | ⟨q, hq, hk⟩
      · exact ⟨_, List.mem_cons_self, rfl⟩
      · exact ⟨ownF qs, List.mem_cons_of_mem _ (List.mem_singleton.2 rfl), q, hq, bsD_brow hk⟩)).ofBk
    exact h2.fin [0, 1, 2, 3] ⟨⟨β 0, bx, SA, qs, sc, b1, []⟩, rfl, rfl, hqs, rfl, rfl⟩ rfl rfl rfl ⟨rfl, rfl, rfl, rfl, trivial⟩
end Go.Proofs.YtoifclfanabalaaGreatDoor.Sx

/- Facts turned, a local block named, between two statements. -/
namespace Go.Proofs.YtoifclfanabalaaGreatDoor.Sx
open Go

theorem reify_tri {cx : Cx} {c : Code} {Q : Exit → KT} {n : Nat} {env : Env} {H : List Bk} {F : List Fact} (id : Nat) {ty : TypeId} {cs : List SL} (vs : Nat → List Value) (h1 : tyAt H id = some ty) (h2 : cellsAt H id = some cs) (h3 : ∀ b, allV (cs.map (SL.re id b)) = some (vs b))
    (h : ∀ b, Tri cx c Q n (envRe id b env) (bksRe id b H) (bkF b ty (vs b) :: F)) : Tri cx c Q n env H F :=
  tri_join (ι := Nat) (fun _ => True) n (fun b => envRe id b env) (fun b => bksRe id b H) (fun b => bkF b ty (vs b) :: F) (fun b _ => h b) (EntX.reify id vs h1 h2 h3 (fun b => EntX.of b trivial ⟨fun β a w hi => ⟨β, rfl, rfl, hi⟩⟩))
end Go.Proofs.YtoifclfanabalaaGreatDoor.Sx

/- Marks. -/
namespace Go.Proofs.YtoifclfanabalaaGreatDoor.Sx
open Go
attribute [local irreducible] Calls

/-- Marks in a row. -/
abbrev mkF (A : Option Addr) (l : List Bool) : Fact := rdF 1 A l.length (l.map Value.bool)
def markB (l : List Bool) (n : Int) : Bool := decide (0 ≤ n) && l.getD n.toNat false
theorem marked_c (w : World) (A : Option Addr) (l : List Bool) (c : Nat) (n : Int) (hr : Rd 1 A l.length (l.map Value.bool) w) : Pu Tryz.prog n_knows_marked #[.slice A l.length c, .int .i64 n] w (.bool (markB l n)) := by
  have g := good_knows_marked w (Un [])
  refine con_of_sx (cx := cx_knows_marked w (Un [])) g b_knows_marked rfl rfl (β := Va.z) [.c (.v (.slice A l.length c)), .c (.v (.int .i64 n))] 0 [] [mkF A l] rfl rfl ((Sat.start rfl).rd (fun _ h => by cases h) hr) ?_
  conv => whnf
  generalize hq : decide ((0 : Int) ≤ n) = bq
  cases bq
  · have h0 : ¬ (0 : Int) ≤ n := of_decide_eq_false hq
    intro β w' hs
    exact hs.fin [] ⟨by unfold markB; rw [hq]; rfl, rfl⟩
  · have h0 : (0 : Int) ≤ n := of_decide_eq_true hq
    obtain ⟨m, rfl⟩ : ∃ m : Nat, n = (m : Int) := ⟨n.toNat, (Int.toNat_of_nonneg h0).symm⟩
    conv => whnf
    generalize hq2 : decide ((m : Int) < (l.length : Int)) = b2
    cases b2
    · have h1 : ¬ (m : Int) < (l.length : Int) := of_decide_eq_false hq2
      intro β w' hs
      refine hs.fin [] ⟨?_, rfl⟩
      unfold markB
      rw [Int.toNat_natCast, List.getD_eq_getElem?_getD, List.getElem?_eq_none (by omega), Option.getD_none, Bool.and_false]
      rfl
    · have h1 : (m : Int) < (l.length : Int) := of_decide_eq_true hq2
      obtain ⟨ad, hA, -⟩ := hr.2 (by omega)
      obtain ⟨y, hy, -⟩ := at_lt (show m < l.length by omega)
      refine ⟨ad, m, hA, rfl, by omega, ?_⟩
      refine ⟨.bool y, fun β w' hs => Rd.cell1 (show Rd 1 (some ad) l.length (l.map Value.bool) w' from hA ▸ hs.get 0 rfl) (by rw [List.getElem?_map, hy]; rfl), ?_⟩
      intro β w' hs
      refine hs.fin [] ⟨?_, rfl⟩
      unfold markB
      rw [Int.toNat_natCast, hq, Bool.true_and, List.getD_eq_getElem?_getD, hy]
      rfl
/-- All are marked. -/
def haveB (l : List Nat) (made : List Bool) : Bool := l.all fun n => markB made (n : Int)
def keepH (b : Nat) (D : Option Addr) (made : List Bool) (d : Nat) : List Fact := [bkF b ty_sl_bool [.slice D made.length d]]
theorem have1_c (w : World) (D : Option Addr) (made : List Bool) (d b : Nat) (n : Int) (hm : Mem w (keepH b D made d ++ [mkF D made])) :
    Con Tryz.prog n_knows_have_1 #[.int .i64 n, .pointer (some ⟨b, 0, none⟩)] w (keepH b D made d) fun v Fs => v = .bool (!markB made n) ∧ Fs = keepH b D made d := by
  have g := good_knows_have_1 w (Un (keepH b D made d))
  have hs0 : Sat (cx_knows_have_1 w (Un (keepH b D made d))) Va.z 0 [] (keepH b D made d ++ [mkF D made]) w := hm.sat0 rfl (fun f hf ho k hk => by
    rcases List.mem_append.1 hf with hf | hf
    · exact ⟨f, hf, hk⟩
    · obtain rfl := List.mem_singleton.1 hf; cases ho)
  refine con_of_sx (cx := cx_knows_have_1 w (Un (keepH b D made d))) g b_knows_have_1 rfl rfl (β := Va.z) [.c (.v (.int .i64 n)), .c (.v (.pointer (some ⟨b, 0, none⟩)))] 0 [] _ rfl rfl hs0 ?_
  refine ⟨_, fun β w' hs => cellM_bk (hs.get 0 rfl) (o := 0) rfl, ?_⟩
  refine call_pu (fun β w' hs => marked_c w' D made d n (hs.get 1 rfl)) ?_
  intro β w' hs
  exact hs.fin [0] ⟨rfl, rfl⟩
theorem idxH_c (w : World) (A D : Option Addr) (l : List Nat) (made : List Bool) (c d b : Nat) (hr : Rd 1 A l.length (ints l) w) (hn : l.length ≤ 2000000) (hm : Mem w (keepH b D made d ++ [mkF D made, rdF 1 A l.length (ints l)])) :
    Con Tryz.prog n_slices_IndexFunc_int_int #[.slice A l.length c, .func (.func n_knows_have_1) #[] #[.pointer (some ⟨b, 0, none⟩)]] w (keepH b D made d) fun v Fs => ∃ i : Int, v = .int .i64 i ∧ (0 ≤ i ↔ haveB l made = false) ∧ Fs = keepH b D made d := by
  have g := good_slices_IndexFunc_int_int w (Un (keepH b D made d))
  have hs0 : Sat (cx_slices_IndexFunc_int_int w (Un (keepH b D made d))) Va.z 0 [] (keepH b D made d ++ [mkF D made, rdF 1 A l.length (ints l)]) w := hm.sat0 rfl (fun f hf ho k hk => by
    rcases List.mem_append.1 hf with hf | hf
    · exact ⟨f, hf, hk⟩
    · simp only [List.mem_cons, List.not_mem_nil, or_false] at hf
      rcases hf with rfl | rfl <;> cases ho)
  refine con_of_sx (cx := cx_slices_IndexFunc_int_int w (Un (keepH b D made d))) g b_slices_IndexFunc_int_int rfl rfl (β := Va.z) [.c (.v (.slice A l.length c)), .c (.v (.func (.func n_knows_have_1) #[] #[.pointer (some ⟨b, 0, none⟩)]))] 0 [] _ rfl rfl hs0 ?_
  have hml := maxLen_eq
  refine loop_rule 0 (fun i : Nat => [(0, .c (.v (.slice A l.length c))), (1, .c (.v (.func (.func n_knows_have_1) #[] #[.pointer (some ⟨b, 0, none⟩)]))), (7, .c (.v (.int .i64 l.length))), (8, .c (.v (.int .i64 (i : Int))))]) (fun _ => []) (fun _ => keepH b D made d ++ [mkF D made, rdF 1 A l.length (ints l)])
    (fun i => i ≤ l.length ∧ haveB (l.take i) made = true) (fun i => l.length - i) 0 ⟨Nat.zero_le _, rfl⟩ (Ent.same ⟨rfl, rfl, rfl, rfl, trivial⟩ rfl) g ?_
  rintro i ⟨hi, hpre⟩
  refine BIf.dec (fun hlt => ?_) (fun hge => ?_)
  · have hlt0 : (i : Int) < l.length := hlt
    obtain ⟨y, hy, hym⟩ := at_lt (show i < l.length by omega)
    obtain ⟨ad, hA, _⟩ := hr.2 (by omega)
    refine ⟨ad, i, hA, rfl, by omega, .int .i64 (y : Int), fun β w' hs => Rd.cell1 (show Rd 1 (some ad) l.length (ints l) w' from hA ▸ hs.get 2 rfl) (by simp [ints, hy]), ?_⟩
    refine Or.inl ⟨by kernel_rfl, ?_⟩
    refine call_con [0] (fun β w' hs => have1_c w' D made d b (y : Int) (hs.mem.take (js := [0, 1]) rfl)) ?_
    rintro v Fs ⟨rfl, rfl⟩
    cases hb : markB made (y : Int) with
    | true =>
      refine ⟨((i + 1 : Nat) : Int), by rw [wrap_i64 (by omega) (by omega)]; rfl, ?_⟩
      refine ⟨i + 1, ⟨by omega, ?_⟩, by omega, Ent.mk' ⟨rfl, rfl, rfl, rfl, trivial⟩ rfl (fun β w' hs => hs)⟩
      unfold haveB at hpre ⊢
      rw [List.take_add_one, hy, List.all_append, hpre]
      simp [hb]
    | false =>
      intro β w' hs
      refine hs.fin [0] ⟨(i : Int), rfl, ⟨fun _ => ?_, fun _ => by omega⟩, rfl⟩ rfl rfl rfl ⟨rfl, trivial⟩
      cases q : haveB l made with
      | false => rfl
      | true => rw [List.all_eq_true.1 q y hym] at hb; cases hb
  · have hge0 : ¬ (i : Int) < l.length := hge
    rw [List.take_of_length_le (by omega)] at hpre
    intro β w' hs
    exact hs.fin [0] ⟨-1, rfl, ⟨fun h => absurd h (by decide), fun h => by rw [hpre] at h; cases h⟩, rfl⟩ rfl rfl rfl ⟨rfl, trivial⟩
theorem conH_c (w : World) (A D : Option Addr) (l : List Nat) (made : List Bool) (c d b : Nat) (hr : Rd 1 A l.length (ints l) w) (hn : l.length ≤ 2000000) (hm : Mem w (keepH b D made d ++ [mkF D made, rdF 1 A l.length (ints l)])) :
    Con Tryz.prog n_slices_ContainsFunc_int_int #[.slice A l.length c, .func (.func n_knows_have_1) #[] #[.pointer (some ⟨b, 0, none⟩)]] w (keepH b D made d) fun v Fs => v = .bool (!haveB l made) ∧ Fs = keepH b D made d := by
  have g := good_slices_ContainsFunc_int_int w (Un (keepH b D made d))
  have hs0 : Sat (cx_slices_ContainsFunc_int_int w (Un (keepH b D made d))) Va.z 0 [] (keepH b D made d ++ [mkF D made, rdF 1 A l.length (ints l)]) w := hm.sat0 rfl (fun f hf ho k hk => by
    rcases List.mem_append.1 hf with hf | hf
    · exact ⟨f, hf, hk⟩
    · simp only [List.mem_cons, List.not_mem_nil, or_false] at hf
      rcases hf with rfl | rfl <;> cases ho)
  refine con_of_sx (cx := cx_slices_ContainsFunc_int_int w (Un (keepH b D made d))) g b_slices_ContainsFunc_int_int rfl rfl (β := Va.z) [.c (.v (.slice A l.length c)), .c (.v (.func (.func n_knows_have_1) #[] #[.pointer (some ⟨b, 0, none⟩)]))] 0 [] _ rfl rfl hs0 ?_
  refine call_con [0] (fun β w' hs => idxH_c w' A D l made c d b (hs.get 2 rfl) hn (hs.mem.take (js := [0, 1, 2]) rfl)) ?_
  rintro v Fs ⟨i, rfl, hi, rfl⟩
  intro β w' hs
  refine hs.fin [0] ⟨?_, rfl⟩ rfl rfl rfl ⟨rfl, trivial⟩
  show Value.bool (decide (0 ≤ i)) = _
  cases q : haveB l made with
  | false => rw [decide_eq_true (hi.2 q)]; rfl
  | true => rw [decide_eq_false (fun h => by rw [hi.1 h] at q; cases q)]; rfl
theorem have_c (w : World) (A D : Option Addr) (l : List Nat) (made : List Bool) (c d : Nat) (hr : Rd 1 A l.length (ints l) w) (hn : l.length ≤ 2000000) (hm : Mem w [rdF 1 A l.length (ints l), mkF D made]) :
    Con Tryz.prog n_knows_have #[.slice A l.length c, .slice D made.length d] w [] fun v Fs => v = .bool (haveB l made) ∧ Fs = [] := by
  have g := good_knows_have w (Un [])
  have hs0 : Sat (cx_knows_have w (Un [])) Va.z 0 [] [rdF 1 A l.length (ints l), mkF D made] w := hm.sat0 rfl (fun f hf ho k hk => by
    simp only [List.mem_cons, List.not_mem_nil, or_false] at hf
    rcases hf with rfl | rfl <;> cases ho)
  refine con_of_tri (cx := cx_knows_have w (Un [])) g b_knows_have rfl rfl (β := Va.z) [.c (.v (.slice A l.length c)), .c (.v (.slice D made.length d))] 0 [] _ rfl rfl hs0 ?_
  refine tri_seq g ?_
  refine reify_tri 0 (fun _ => [.slice D made.length d]) rfl rfl (fun _ => rfl) (fun rb => ?_)
  refine tri_seq g ?_
  refine call_con [0] (fun β w' hs => conH_c w' A D l made c d rb (hs.get 1 rfl) hn (hs.mem.take (js := [0, 2, 1]) rfl)) ?_
  rintro v Fs ⟨rfl, rfl⟩
  refine tri_of g ?_
  intro β w' hs
  refine hs.fin [] ⟨?_, rfl⟩
  show Value.bool (!!haveB l made) = _
  rw [Bool.not_not]
end Go.Proofs.YtoifclfanabalaaGreatDoor.Sx

/- What can be made, plainly: the least closed marks. -/
namespace Go.Proofs.YtoifclfanabalaaGreatDoor.Sx
open Go
attribute [local irreducible] Calls

/-- What a term needs. -/
structure Nd where
  of : List Nat
  ok : Bool
  turn : Bool
def ndT (ss : List (List UInt8)) (t : Bx.Term) : Nd := if t.kind = 4 then ⟨t.list, true, true⟩ else ⟨foundS t.key ++ foundS t.text, betweenB ss t.key && betweenB ss t.text, false⟩
def ndL (ss : List (List UInt8)) (L : List Bx.Term) : List Nd := ⟨[], false, false⟩ :: L.map (ndT ss)
def IsM (l : List Bool) (n : Nat) : Prop := markB l (n : Int) = true
theorem markB_nat (l : List Bool) (n : Nat) : markB l (n : Int) = l.getD n false := by
  unfold markB
  rw [decide_eq_true (Int.natCast_nonneg n), Bool.true_and, Int.toNat_natCast]
theorem isM_iff {l : List Bool} {n : Nat} : IsM l n ↔ l[n]? = some true := by
  unfold IsM
  rw [markB_nat, List.getD_eq_getElem?_getD]
  cases l[n]? with
  | none => simp
  | some b => simp
theorem isM_set {l : List Bool} {n m : Nat} (hn : n < l.length) : IsM (l.set n true) m ↔ IsM l m ∨ m = n := by
  rw [isM_iff, isM_iff, List.getElem?_set]
  by_cases h : n = m
  · subst h
    rw [if_pos rfl, if_pos hn]
    simp
  · rw [if_neg h]
    exact ⟨.inl, fun q => q.elim id (fun e => absurd e.symm h)⟩
theorem have_iff {of : List Nat} {C : List Bool} : haveB of C = true ↔ ∀ n ∈ of, IsM C n := by
  unfold haveB IsM
  exact List.all_eq_true
/-- Those of a list that aren't made. -/
def leftL (C : List Bool) (of : List Nat) : List Nat := of.filter fun n => !markB C (n : Int)
def OkAt (C : List Bool) (n : Nat) (d : Nd) : Prop := (d.ok = true → haveB d.of C = true → IsM C n) ∧ (d.turn = true → IsM C n → ∀ k, leftL C d.of = [k] → k < C.length → IsM C k)
def Closed (nds : List Nd) (C : List Bool) : Prop := C.length = nds.length ∧ ∀ n d, nds[n]? = some d → 0 < n → OkAt C n d
def Le (A C : List Bool) : Prop := A.length = C.length ∧ ∀ n, IsM A n → IsM C n
/-- The least marks that are closed, from some on. -/
def Least (nds : List Nd) (I R : List Bool) : Prop := Closed nds R ∧ Le I R ∧ ∀ C, Closed nds C → Le I C → Le R C
theorem Le.refl (A : List Bool) : Le A A := ⟨rfl, fun _ h => h⟩
theorem Le.trans {A B C : List Bool} (h : Le A B) (h2 : Le B C) : Le A C := ⟨h.1.trans h2.1, fun n q => h2.2 n (h.2 n q)⟩
theorem Le.set {A C : List Bool} {n : Nat} (h : Le A C) (hn : n < A.length) (hc : IsM C n) : Le (A.set n true) C := by
  refine ⟨by rw [List.length_set]; exact h.1, fun m q => ?_⟩
  rcases (isM_set hn).1 q with q | rfl
  · exact h.2 m q
  · exact hc
theorem Le.have {A C : List Bool} (h : Le A C) {of : List Nat} (q : haveB of A = true) : haveB of C = true := have_iff.2 fun n hn => h.2 n (have_iff.1 q n hn)
theorem left_le {A C : List Bool} (h : Le A C) (of : List Nat) : leftL C of = leftL C (leftL A of) := by
  unfold leftL
  rw [List.filter_filter]
  refine (List.filter_congr fun n _ => ?_)
  cases hc : markB C (n : Int) with
  | true => rfl
  | false =>
    cases ha : markB A (n : Int) with
    | false => rfl
    | true => exact absurd ((show markB C (n : Int) = true from h.2 n ha)) (by rw [hc]; decide)
theorem left_mem {C : List Bool} {of : List Nat} {k : Nat} (h : k ∈ leftL C of) : k ∈ of ∧ ¬ IsM C k := by
  unfold leftL at h
  obtain ⟨h1, h2⟩ := List.mem_filter.1 h
  refine ⟨h1, fun q => ?_⟩
  rw [show markB C (k : Int) = true from q] at h2
  cases h2
/-- One that a Turn gives: any closed marks that hold these hold it, too. -/
theorem lone_in {nds : List Nd} {A C : List Bool} {n k : Nat} {d : Nd} (hC : Closed nds C) (h : Le A C) (hd : nds[n]? = some d) (h0 : 0 < n) (ht : d.turn = true) (hn : IsM A n) (hk : leftL A d.of = [k]) (hl : k < A.length) : IsM C k := by
  have h2 := (hC.2 n d hd h0).2 ht (h.2 n hn) k
  have e := left_le h d.of
  rw [hk] at e
  by_cases q : IsM C k
  · exact q
  · refine h2 ?_ (by rw [← h.1]; exact hl)
    rw [e]
    unfold leftL
    have : markB C (k : Int) = false := by
      cases hm : markB C (k : Int) with
      | false => rfl
      | true => exact absurd hm q
    simp [this]
def cntF (l : List Bool) : Nat := l.count false
theorem cntF_set : ∀ {l : List Bool} {n : Nat}, n < l.length → ¬ IsM l n → cntF (l.set n true) + 1 = cntF l
  | [], n, h, _ => absurd h (Nat.not_lt_zero _)
  | b :: r, 0, _, hm => by
    cases b with
    | true => exact absurd rfl hm
    | false => simp [cntF]
  | b :: r, n + 1, h, hm => by
    have ih := cntF_set (l := r) (n := n) (by simpa using h) (fun q => hm (isM_iff.2 (by rw [List.getElem?_cons_succ]; exact isM_iff.1 q)))
    unfold cntF at ih ⊢
    rw [List.set_cons_succ, List.count_cons, List.count_cons]
    omega
/-- Where a round stands. -/
structure Inn (nds : List Nd) (I m0 made : List Bool) (n : Nat) (more : Bool) : Prop where
  len : made.length = nds.length
  le0 : Le I made
  least : ∀ C, Closed nds C → Le I C → Le made C
  lt : more = true → cntF made < cntF m0
  same : more = false → made = m0 ∧ ∀ i d, nds[i]? = some d → 0 < i → i < n → OkAt made i d
/-- A round's middle: the first half of a need is seen to. -/
structure Mid (nds : List Nd) (I m0 made : List Bool) (n : Nat) (more : Bool) (d : Nd) : Prop where
  inn : Inn nds I m0 made n more
  half : 0 < n → d.ok = true → haveB d.of made = true → more = false → IsM made n
theorem Inn.cnt {nds : List Nd} {I m0 made : List Bool} {n : Nat} {more : Bool} (h : Inn nds I m0 made n more) : cntF made ≤ cntF m0 := by
  cases more with
  | true => exact Nat.le_of_lt (h.lt rfl)
  | false => rw [(h.same rfl).1]; exact Nat.le_refl _
theorem Inn.put {nds : List Nd} {I m0 made : List Bool} {n k : Nat} {more : Bool} (h : Inn nds I m0 made n more) (hk : k < made.length) (hm : ¬ IsM made k) (hC : ∀ C, Closed nds C → Le I C → Le made C → IsM C k) : Inn nds I m0 (made.set k true) n true where
  len := by rw [List.length_set]; exact h.len
  le0 := ⟨by rw [List.length_set]; exact h.le0.1, fun m q => (isM_set hk).2 (.inl (h.le0.2 m q))⟩
  least := fun C h1 h2 => (h.least C h1 h2).set hk (hC C h1 h2 (h.least C h1 h2))
  lt := fun _ => by have := cntF_set hk hm; have := h.cnt; omega
  same := fun q => by cases q
theorem Inn.mid_put {nds : List Nd} {I m0 made : List Bool} {n : Nat} {more : Bool} {d : Nd} (h : Inn nds I m0 made n more) (hd : nds[n]? = some d) (h0 : 0 < n) (hm : ¬ IsM made n) (hok : d.ok = true) (hv : haveB d.of made = true) : Mid nds I m0 (made.set n true) n true d where
  inn := h.put (by rw [h.len]; exact (List.getElem?_eq_some_iff.1 hd).1) hm (fun C h1 _ h3 => (h1.2 n d hd h0).1 hok (h3.have hv))
  half := fun _ _ _ q => by cases q
theorem Inn.mid_no {nds : List Nd} {I m0 made : List Bool} {n : Nat} {more : Bool} {d : Nd} (h : Inn nds I m0 made n more) (hno : 0 < n → d.ok = true → haveB d.of made = true → IsM made n) : Mid nds I m0 made n more d := ⟨h, fun h0 h1 h2 _ => hno h0 h1 h2⟩
theorem Inn.next {nds : List Nd} {I m0 made : List Bool} {n : Nat} {d : Nd} {more : Bool} (h : Inn nds I m0 made n more) (hd : nds[n]? = some d) (hn : 0 < n → more = false → OkAt made n d) : Inn nds I m0 made (n + 1) more where
  len := h.len
  le0 := h.le0
  least := h.least
  lt := h.lt
  same := fun q => ⟨(h.same q).1, fun i d' hi h0 hlt => by
    rcases Nat.lt_or_ge i n with q2 | q2
    · exact (h.same q).2 i d' hi h0 q2
    · obtain rfl : i = n := by omega
      rw [hd] at hi
      obtain rfl := Option.some.inj hi
      exact hn h0 q⟩
theorem Mid.next_no {nds : List Nd} {I m0 made : List Bool} {n : Nat} {d : Nd} {more : Bool} (h : Mid nds I m0 made n more d) (hd : nds[n]? = some d) (hno : 0 < n → d.turn = true → IsM made n → ∀ k, leftL made d.of = [k] → k < made.length → IsM made k) : Inn nds I m0 made (n + 1) more :=
  h.inn.next hd fun h0 q => ⟨fun h1 h2 => h.half h0 h1 h2 q, hno h0⟩
theorem Mid.next_put {nds : List Nd} {I m0 made : List Bool} {n k : Nat} {d : Nd} {more : Bool} (h : Mid nds I m0 made n more d) (hd : nds[n]? = some d) (h0 : 0 < n) (ht : d.turn = true) (hm : IsM made n) (hk : leftL made d.of = [k]) (hl : k < made.length) : Inn nds I m0 (made.set k true) (n + 1) true := by
  have hno := (left_mem (C := made) (of := d.of) (k := k) (by rw [hk]; exact List.mem_singleton.2 rfl)).2
  have h2 := h.inn.put hl hno (fun C h1 _ h3 => lone_in h1 h3 hd h0 ht hm hk hl)
  exact h2.next hd (fun _ q => by cases q)
theorem Inn.start {nds : List Nd} {I made : List Bool} (hl : made.length = nds.length) (h0 : Le I made) (h1 : ∀ C, Closed nds C → Le I C → Le made C) : Inn nds I made made 0 false := ⟨hl, h0, h1, fun q => (by cases q), fun _ => ⟨rfl, fun i d _ _ q => absurd q (Nat.not_lt_zero _)⟩⟩
theorem Inn.done {nds : List Nd} {I m0 made : List Bool} (h : Inn nds I m0 made nds.length false) : Least nds I made := by
  refine ⟨⟨h.len, fun n d hd h0 => (h.same rfl).2 n d hd h0 (List.getElem?_eq_some_iff.1 hd).1⟩, h.le0, h.least⟩
/-- The marks of numbers. -/
def marksOf (N : Nat) (ns : List Nat) : List Bool := (List.range N).map fun i => decide (i ∈ ns)
theorem marksOf_len (N : Nat) (ns : List Nat) : (marksOf N ns).length = N := by simp [marksOf]
theorem marksOf_iff {N : Nat} {ns : List Nat} {n : Nat} : IsM (marksOf N ns) n ↔ n < N ∧ n ∈ ns := by
  rw [isM_iff]
  unfold marksOf
  rw [List.getElem?_map]
  by_cases h : n < N
  · rw [List.getElem?_range h]
    simp [h]
  · rw [List.getElem?_eq_none (by simp; omega)]
    simp [h]
end Go.Proofs.YtoifclfanabalaaGreatDoor.Sx

/- No box; a box's terms, one by one. -/
namespace Go.Proofs.YtoifclfanabalaaGreatDoor.Sx
open Go
attribute [local irreducible] Calls

abbrev Tm := Bx.Term × TA
def insT (L : List Bx.Term) (pre : List Tm) (x : Tm) (args : Array Value) (X : Fact) : Prop := args = #[.int .i64 ((pre.length + 1 : Nat) : Int), .agg (termV x.1 x.2).toArray] ∧ X = sepF (copyFs x.1 x.2) ∧ L[pre.length]? = some x.1
def termsEnd (b : Nat) (B : Bx.Box) (y : Lay) (J Jx : List Tm → Fact → Prop) (Fs : List Fact) : Prop :=
  ∃ f Fs', Fs = f :: Fs' ∧ ((∃ xs, J xs f ∧ xs.length = B.L.length ∧ Fs' = [bxF b B y]) ∨ (∃ pre, Jx pre f ∧ pre.length ≤ B.L.length ∧ Fs' = [bxF b B y]))
theorem terms_it (l : Nat) (w : World) (bx b : Nat) (B : Bx.Box) (y : Lay) (f0 R : Fact) (J Jx : List Tm → Fact → Prop) (hts : y.ts.map (·.1) = B.L) (hL : B.L.length ≤ 4096) (hsz : ∀ t ∈ B.L, TSz t) (hJ0 : J [] f0) (hJo : ∀ pre f, J pre f → f.own = true) (hRo : R.own = false) (hY : Yc Tryz.prog l J Jx R (insT B.L))
    (hm : Mem w (f0 :: R :: [bkF bx ty_ptr_box_Box [ptrB b], bxF b B y])) :
    Con Tryz.prog n_box_Box_Terms_1 #[.func (.yield l) #[] #[], .pointer (some ⟨bx, 0, none⟩)] w [f0, bkF bx ty_ptr_box_Box [ptrB b], bxF b B y] (fun _ Fs => termsEnd b B y J Jx Fs) := by
  have g := good_box_Box_Terms_1 w (Un [f0, bkF bx ty_ptr_box_Box [ptrB b], bxF b B y]) [bx]
  have hs0 : Sat (cx_box_Box_Terms_1 w (Un [f0, bkF bx ty_ptr_box_Box [ptrB b], bxF b B y]) [bx]) (Va.of fun _ => bx) 1 [] (f0 :: R :: [bkF bx ty_ptr_box_Box [ptrB b], bxF b B y]) w := by
    refine hm.sat rfl (fun f hf ho k hk => ?_) ⟨Nat.le_refl 1, fun i hi => by obtain rfl : i = 0 := Nat.lt_one_iff.1 hi; rfl⟩
    simp only [List.mem_cons, List.not_mem_nil, or_false] at hf
    rcases hf with rfl | rfl | rfl | rfl
    · exact ⟨_, by simp, hk⟩
    · rw [hRo] at ho; cases ho
    · exact ⟨bkF bx ty_ptr_box_Box [ptrB b], by simp, hk⟩
    · exact ⟨bxF b B y, by simp, hk⟩
  have hs1 := hs0.toBk 2 rfl 0 Nat.zero_lt_one rfl
  refine con_of_sx (cx := cx_box_Box_Terms_1 w (Un [f0, bkF bx ty_ptr_box_Box [ptrB b], bxF b B y]) [bx]) g b_box_Box_Terms_1 rfl rfl (β := Va.of fun _ => bx) [.c (.v (.func (.yield l) #[] #[])), .c (.p 0 0)] 1 _ _ rfl rfl hs1 ?_
  have hlen : y.ts.length = B.L.length := by rw [← hts, List.length_map]
  have hyA : 0 < B.L.length → ∃ ad, y.A = some ad := fun hp => by
    obtain ⟨ad, q, _⟩ := (bx_rd (hs1.get 2 rfl)).2 (by omega)
    exact ⟨ad, q⟩
  refine call_pu (fun β w' hs => lenX_c w' b B y (hs.get 2 rfl) (fun k hk => hs.flt _ (List.mem_of_getElem? (i := 2) rfl) k hk)) ?_
  refine loop_rule (ι := List Tm × Fact) 1 (fun i => [(0, .c (.v (.func (.yield l) #[] #[]))), (1, .c (.p 0 0)), (5, .c (.v (.int .i64 (B.L.length : Int)))), (6, .c (.v (.int .i64 (i.1.length : Int))))]) (fun _ => [⟨0, ty_ptr_box_Box, [.v (ptrB b)]⟩]) (fun i => [i.2, R, bxF b B y])
    (fun i => J i.1 i.2 ∧ i.1.length ≤ B.L.length) (fun i => B.L.length - i.1.length) ([], f0) ⟨hJ0, Nat.zero_le _⟩ (Ent.same ⟨rfl, rfl, rfl, rfl, trivial⟩ rfl) g ?_
  rintro ⟨pre, f⟩ ⟨hJ, hi⟩
  simp only at hJ hi
  have hfo := hJo _ _ hJ
  simp only
  refine BIf.dec (fun hlt => ?_) (fun hge => ?_)
  · have hlt0 : (pre.length : Int) < B.L.length := hlt
    have hkl : pre.length < B.L.length := by omega
    obtain ⟨q, hq, hqm⟩ := at_lt (l := y.ts) (k := pre.length) (by omega)
    have hqL : B.L[pre.length]? = some q.1 := by rw [← hts, List.getElem?_map, hq]; rfl
    have hqs := hsz _ (List.mem_of_getElem? hqL)
    refine ⟨((pre.length + 1 : Nat) : Int), by rw [wrap_i64 (by omega) (by omega)]; rfl, ?_⟩
    refine ⟨.slice y.A B.L.length y.c, fun β w' hs => box_cell (bx_bk (hs.get 2 rfl)) (o := 2) rfl, ?_⟩
    obtain ⟨ad, hAd⟩ := hyA (by omega)
    refine ⟨ad, pre.length, hAd, rfl, hkl, termV q.1 q.2, rfl, fun β w' hs => elem6 (bx_rd (hs.get 2 rfl)) hlen hAd hq, ?_⟩
    refine call_conS [] (fun β w' hs => copyOf_c w' q.1 q.2 (bx_parts (hs.get 2 rfl) q hqm) hqs) ?_
    rintro v Fs ⟨a', rfl, rfl⟩
    refine ⟨_, _, fun β w' hs => hs.sep [0, 1, 2, 3] rfl ⟨rfl, rfl, rfl, rfl, trivial⟩, ?_⟩
    refine yield_own (X := sepF (copyFs q.1 a')) (x := (q.1, a')) hY 1 2 0 rfl hJ hfo rfl rfl rfl (by decide) (by decide) (by decide) (fun β => ⟨rfl, rfl, hqL⟩) ?_ ?_
    · intro f2 hfo2 hJ2
      have e : (pre ++ [(q.1, a')]).length = pre.length + 1 := by rw [List.length_append]; rfl
      refine ⟨((pre.length + 1 : Nat) : Int), by rw [wrap_i64 (by omega) (by omega)]; rfl, ?_⟩
      refine ⟨(pre ++ [(q.1, a')], f2), ⟨hJ2, by show (pre ++ [(q.1, a')]).length ≤ _; omega⟩, by show B.L.length - (pre ++ [(q.1, a')]).length < B.L.length - pre.length; omega, ?_⟩
      simp only [e]
      exact Ent.same ⟨rfl, rfl, rfl, rfl, trivial⟩ rfl
    · intro f2 hfo2 hJ2 β w' hs
      have e : (pre ++ [(q.1, a')]).length = pre.length + 1 := by rw [List.length_append]; rfl
      exact (hs.keepB (List.nil_sublist _)).fin [0, 2] ⟨f2, _, rfl, .inr ⟨_, hJ2, by omega, rfl⟩⟩ rfl rfl rfl ⟨hfo2, rfl, trivial⟩
  · have hge0 : ¬ (pre.length : Int) < B.L.length := hge
    intro β w' hs
    exact (hs.keepB (List.nil_sublist _)).fin [0, 2] ⟨f, _, rfl, .inl ⟨pre, hJ, by omega, rfl⟩⟩ rfl rfl rfl ⟨hfo, rfl, trivial⟩
theorem terms_c (w : World) (b : Nat) : Con Tryz.prog n_box_Box_Terms #[ptrB b] w [] (fun v Fs => ∃ bx, v = .func (.func n_box_Box_Terms_1) #[] #[.pointer (some ⟨bx, 0, none⟩)] ∧ Fs = [bkF bx ty_ptr_box_Box [ptrB b]]) := by
  refine con_of_sx (cx := cx_box_Box_Terms w (Un [])) (good_box_Box_Terms w (Un [])) b_box_Box_Terms rfl rfl (β := Va.z) [.c (.v (ptrB b))] 0 [] [] rfl rfl (Sat.start rfl) ?_
  intro β w' hs
  exact hs.ofBk.fin [0] ⟨β 0, rfl, rfl⟩
end Go.Proofs.YtoifclfanabalaaGreatDoor.Sx

/- A nil mind. -/
namespace Go.Proofs.YtoifclfanabalaaGreatDoor.Sx
open Go
attribute [local irreducible] Calls

end Go.Proofs.YtoifclfanabalaaGreatDoor.Sx

/- What a mind has seen. -/
namespace Go.Proofs.YtoifclfanabalaaGreatDoor.Sx
open Go
attribute [local irreducible] Calls

end Go.Proofs.YtoifclfanabalaaGreatDoor.Sx

/- The first one that is asked for. -/
namespace Go.Proofs.YtoifclfanabalaaGreatDoor.Sx
open Go
attribute [local irreducible] Calls

theorem lone1_c (w : World) (D : Option Addr) (made : List Bool) (d b : Nat) (n : Int) (hm : Mem w (keepH b D made d ++ [mkF D made])) :
    Con Tryz.prog n_knows_lone_1 #[.int .i64 n, .pointer (some ⟨b, 0, none⟩)] w (keepH b D made d) fun v Fs => v = .bool (markB made n) ∧ Fs = keepH b D made d := by
  have g := good_knows_lone_1 w (Un (keepH b D made d))
  have hs0 : Sat (cx_knows_lone_1 w (Un (keepH b D made d))) Va.z 0 [] (keepH b D made d ++ [mkF D made]) w := hm.sat0 rfl (fun f hf ho k hk => by
    rcases List.mem_append.1 hf with hf | hf
    · exact ⟨f, hf, hk⟩
    · obtain rfl := List.mem_singleton.1 hf; cases ho)
  refine con_of_sx (cx := cx_knows_lone_1 w (Un (keepH b D made d))) g b_knows_lone_1 rfl rfl (β := Va.z) [.c (.v (.int .i64 n)), .c (.v (.pointer (some ⟨b, 0, none⟩)))] 0 [] _ rfl rfl hs0 ?_
  refine ⟨_, fun β w' hs => cellM_bk (hs.get 0 rfl) (o := 0) rfl, ?_⟩
  refine call_pu (fun β w' hs => marked_c w' D made d n (hs.get 1 rfl)) ?_
  intro β w' hs
  exact hs.fin [0] ⟨rfl, rfl⟩
/-- The first one's place. -/
def ixF (f : Nat → Bool) (l : List Nat) : Int := if l.any f = true then (l.findIdx f : Int) else -1
theorem idxL_c (w : World) (A D : Option Addr) (l : List Nat) (made : List Bool) (c d b : Nat) (hr : Rd 1 A l.length (ints l) w) (hn : l.length ≤ 2000000) (hm : Mem w (keepH b D made d ++ [mkF D made, rdF 1 A l.length (ints l)])) :
    Con Tryz.prog n_slices_IndexFunc_int_int #[.slice A l.length c, .func (.func n_knows_lone_1) #[] #[.pointer (some ⟨b, 0, none⟩)]] w (keepH b D made d) fun v Fs => v = .int .i64 (ixF (fun n : Nat => markB made (n : Int)) l) ∧ Fs = keepH b D made d := by
  have g := good_slices_IndexFunc_int_int w (Un (keepH b D made d))
  have hs0 : Sat (cx_slices_IndexFunc_int_int w (Un (keepH b D made d))) Va.z 0 [] (keepH b D made d ++ [mkF D made, rdF 1 A l.length (ints l)]) w := hm.sat0 rfl (fun f hf ho k hk => by
    rcases List.mem_append.1 hf with hf | hf
    · exact ⟨f, hf, hk⟩
    · simp only [List.mem_cons, List.not_mem_nil, or_false] at hf
      rcases hf with rfl | rfl <;> cases ho)
  refine con_of_sx (cx := cx_slices_IndexFunc_int_int w (Un (keepH b D made d))) g b_slices_IndexFunc_int_int rfl rfl (β := Va.z) [.c (.v (.slice A l.length c)), .c (.v (.func (.func n_knows_lone_1) #[] #[.pointer (some ⟨b, 0, none⟩)]))] 0 [] _ rfl rfl hs0 ?_
  have hml := maxLen_eq
  obtain ⟨f, hf⟩ : ∃ f : Nat → Bool, f = fun n : Nat => markB made (n : Int) := ⟨_, rfl⟩
  rw [← hf]
  refine loop_rule 0 (fun i : Nat => [(0, .c (.v (.slice A l.length c))), (1, .c (.v (.func (.func n_knows_lone_1) #[] #[.pointer (some ⟨b, 0, none⟩)]))), (7, .c (.v (.int .i64 l.length))), (8, .c (.v (.int .i64 (i : Int))))]) (fun _ => []) (fun _ => keepH b D made d ++ [mkF D made, rdF 1 A l.length (ints l)])
    (fun i => i ≤ l.length ∧ (l.take i).any f = false) (fun i => l.length - i) 0 ⟨Nat.zero_le _, rfl⟩ (Ent.same ⟨rfl, rfl, rfl, rfl, trivial⟩ rfl) g ?_
  rintro i ⟨hi, hpre⟩
  refine BIf.dec (fun hlt => ?_) (fun hge => ?_)
  · have hlt0 : (i : Int) < l.length := hlt
    obtain ⟨y, hy, hym⟩ := at_lt (show i < l.length by omega)
    obtain ⟨ad, hA, _⟩ := hr.2 (by omega)
    refine ⟨ad, i, hA, rfl, by omega, .int .i64 (y : Int), fun β w' hs => Rd.cell1 (show Rd 1 (some ad) l.length (ints l) w' from hA ▸ hs.get 2 rfl) (by simp [ints, hy]), ?_⟩
    refine Or.inl ⟨by kernel_rfl, ?_⟩
    refine call_con [0] (fun β w' hs => lone1_c w' D made d b (y : Int) (hs.mem.take (js := [0, 1]) rfl)) ?_
    rintro v Fs ⟨rfl, rfl⟩
    have hfy : f y = markB made (y : Int) := by rw [hf]
    rw [← hfy]
    cases hb : f y with
    | false =>
      refine ⟨((i + 1 : Nat) : Int), by rw [wrap_i64 (by omega) (by omega)]; rfl, ?_⟩
      refine ⟨i + 1, ⟨by omega, ?_⟩, by omega, Ent.mk' ⟨rfl, rfl, rfl, rfl, trivial⟩ rfl (fun β w' hs => hs)⟩
      rw [List.take_add_one, hy, List.any_append, hpre]
      simp [hb]
    | true =>
      have hix : l.findIdx f = i := by
        refine (List.findIdx_eq (by omega)).2 ⟨?_, fun j hj => ?_⟩
        · rw [(List.getElem?_eq_some_iff.1 hy).2]; exact hb
        · have := List.any_eq_false.1 hpre (l[j]'(by omega)) (List.mem_take_iff_getElem.2 ⟨j, by omega, rfl⟩)
          simpa using this
      have hany : l.any f = true := List.any_eq_true.2 ⟨y, hym, hb⟩
      intro β w' hs
      exact hs.fin [0] ⟨by unfold ixF; rw [if_pos hany, hix]; rfl, rfl⟩ rfl rfl rfl ⟨rfl, trivial⟩
  · have hge0 : ¬ (i : Int) < l.length := hge
    rw [List.take_of_length_le (by omega)] at hpre
    intro β w' hs
    exact hs.fin [0] ⟨by unfold ixF; rw [hpre]; rfl, rfl⟩ rfl rfl rfl ⟨rfl, trivial⟩
end Go.Proofs.YtoifclfanabalaaGreatDoor.Sx

/- A row's end is cleared; a row grows less. -/
namespace Go.Proofs.YtoifclfanabalaaGreatDoor.Sx
open Go

theorem zeroCells_one (z0 : Value) (n : Nat) : (Builtin.zeroCells #[z0] n).toList = List.replicate n z0 := by
  simp [Builtin.zeroCells]
  apply List.ext_getElem
  · simp
  · intro i h1 h2
    simp [Nat.mod_one]
section
variable {cx : Cx} {β : Va} {n : Nat} {env : Env} {H : List Bk} {F : List Fact} {w : World}
theorem Sat.clearRow (h : Sat cx β n H F w) (g : Good cx) (j : Nat) {b k c e i m q : Nat} {xs : List Value} {z0 : Value} (hj : nth F j = some (rowF e 1 (.slice (some ⟨b, 0, none⟩) k c) k xs)) (him : i + m = k) (hm : 0 < m)
    {t : TypeId} {it ie : TI} (ty : TypeId) (cst : Array Bool) (h1 : z0.oneCell' = true) (hi : lk cx.tt t = some it := by rfl) (hd : it.desc = .slice e := by rfl) (hie : lk cx.tt e = some ie := by rfl) (hz : ie.zero = [z0] := by rfl) :
    ∃ w', (builtin .clear #[t] ty cst #[.slice (some ((⟨b, 0, none⟩ : Addr).add i)) m q]).run cx.P w = .ok (.value (.tuple #[])) w' ∧
      Sat cx β n H (putAt F j (rowF e 1 (.slice (some ⟨b, 0, none⟩) k c) k (putAll xs i (List.replicate m z0)))) w' := by
  have ht := (g.ti hi).real (d := .slice _) hd rfl
  obtain ⟨z, hzv, hzc⟩ := (g.ti hie).run_zero w
  have hza : z.cells = #[z0] := by apply Array.ext'; rw [hzc, hz]
  obtain ⟨w', e1, e2⟩ := h.rowSet (us := List.replicate m z0) (o := i) hj (by rw [List.length_replicate]; omega) (fun u hu => by rw [List.eq_of_mem_replicate hu]; exact h1)
  refine ⟨w', ?_, e2⟩
  obtain ⟨m', rfl⟩ : ∃ m', m = m' + 1 := ⟨m - 1, by omega⟩
  simp [builtin, Builtin.clear_, run_underlying ht, hzv, hza, zeroCells_one, e1]
theorem dropIx_all : ∀ (F : List Fact) (i : Nat), dropIx [0] (i + 1) F = F
  | [], _ => rfl
  | f :: r, i => by
    show f :: dropIx [0] (i + 2) r = f :: r
    rw [dropIx_all r (i + 1)]
/-- A row's first part, as a row. -/
theorem Sat.lessRow (h : Sat cx β n H F w) {e s i k c : Nat} {A : Option Addr} {xs : List Value} {F' : List Fact} (hF : F = rowF e s (.slice A k c) k xs :: F') (hik : i ≤ k) (hA : ∃ b, A = some ⟨b, 0, none⟩) :
    Sat cx β n H (rowF e s (.slice A i c) i (xs.take (i * s)) :: F') w := by
  subst hF
  obtain ⟨b, rfl⟩ := hA
  have hd : dropIx [0] 0 (rowF e s (.slice (some ⟨b, 0, none⟩) k c) k xs :: F') = F' := dropIx_all F' 0
  have h2 := h.fuse [0] (rowF e s (.slice (some ⟨b, 0, none⟩) i c) i (xs.take (i * s))) (fun w hm => ?_) (fun k hk => ?_)
  · rw [hd] at h2
    exact h2
  · have hp : w.ownsRow 0 e s (.slice (some ⟨b, 0, none⟩) k c) k xs := hm.fact (rowF e s (.slice (some ⟨b, 0, none⟩) k c) k xs) (by simp [takeIx, nth])
    have hks : i * s ≤ k * s := Nat.mul_le_mul_right _ hik
    refine ⟨by rw [List.length_take, hp.1]; omega, .inr ?_⟩
    rcases hp.2 with ⟨q, _⟩ | ⟨g, cap, cur, hv, hb, hg, hnc, hcm, hcs, htake⟩
    · cases q
    · injection hv with h1 h2 h3
      subst h3
      exact ⟨g, c, cur, by rw [h1], hb, hg, by omega, hcm, hcs, by rw [← htake, List.take_take, Nat.min_eq_left hks]⟩
  · exact ⟨_, List.mem_cons_self, hk⟩
end
end Go.Proofs.YtoifclfanabalaaGreatDoor.Sx

/- What isn't made of a list. -/
namespace Go.Proofs.YtoifclfanabalaaGreatDoor.Sx
open Go
attribute [local irreducible] Calls

/-- Where the moving of those that stay stands. -/
structure DelI (f : Nat → Bool) (l : List Nat) (i j : Nat) (dk : List Nat) : Prop where
  len : dk.length = l.length
  lt : i < j
  le : j ≤ l.length
  low : dk.take i = (l.take j).filter fun n => !f n
  high : ∀ q, j ≤ q → dk[q]? = l[q]?
theorem DelI.start {f : Nat → Bool} {l : List Nat} (h : l.any f = true) : DelI f l (l.findIdx f) (l.findIdx f + 1) l := by
  obtain ⟨x, hx, hf⟩ := List.any_eq_true.1 h
  have hlt : l.findIdx f < l.length := List.findIdx_lt_length_of_exists ⟨x, hx, hf⟩
  refine ⟨rfl, Nat.lt_succ_self _, hlt, ?_, fun _ _ => rfl⟩
  rw [List.take_add_one, List.getElem?_eq_getElem hlt, List.filter_append]
  have e1 : (l.take (l.findIdx f)).filter (fun n => !f n) = l.take (l.findIdx f) := by
    rw [List.filter_eq_self]
    intro a ha
    obtain ⟨q, hq, rfl⟩ := List.mem_take_iff_getElem.1 ha
    have := List.not_of_lt_findIdx (p := f) (xs := l) (i := q) (by omega)
    simpa using this
  have e2 : f l[l.findIdx f] = true := List.findIdx_getElem (w := hlt)
  rw [e1]
  simp [e2]
theorem DelI.keep {f : Nat → Bool} {l dk : List Nat} {i j x : Nat} (h : DelI f l i j dk) (hx : l[j]? = some x) (hf : f x = false) : DelI f l (i + 1) (j + 1) (dk.set i x) := by
  have hj := (List.getElem?_eq_some_iff.1 hx).1
  have h1 := h.lt
  have h2 := h.len
  refine ⟨by rw [List.length_set]; exact h.len, by omega, hj, ?_, fun q hq => ?_⟩
  · rw [List.take_add_one, List.take_add_one, hx, List.filter_append, List.take_set_of_le (Nat.le_refl _), h.low, List.getElem?_set, if_pos rfl, if_pos (by omega)]
    simp [hf]
  · rw [List.getElem?_set, if_neg (by omega), h.high q (by omega)]
theorem DelI.skip {f : Nat → Bool} {l dk : List Nat} {i j x : Nat} (h : DelI f l i j dk) (hx : l[j]? = some x) (hf : f x = true) : DelI f l i (j + 1) dk := by
  have hj := (List.getElem?_eq_some_iff.1 hx).1
  have h1 := h.lt
  refine ⟨h.len, by omega, hj, ?_, fun q hq => h.high q (by omega)⟩
  rw [List.take_add_one, hx, List.filter_append, h.low]
  simp [hf]
theorem asRd {cx : Cx} {β : Va} {n : Nat} {H : List Bk} {F : List Fact} {w : World} {e s k c : Nat} {A : Option Addr} {xs : List Value} (h : Sat cx β n H F w) (j : Nat) (hj : nth F j = some (rowF e s (.slice A k c) k xs)) : Sat cx β n H (rdF s A k xs :: dropIx [j] 0 F) w := by
  have q : takeIx F [j] = [rowF e s (.slice A k c) k xs] := by simp only [takeIx, hj]
  refine h.fuse [j] (rdF s A k xs) (fun w hm => ?_) (fun k hk => ?_) rfl (by rw [q]; exact ⟨rfl, trivial⟩)
  · rw [q] at hm
    exact row_rd (hm.fact _ List.mem_cons_self)
  · rw [q]
    obtain ⟨_, ad, h, rfl⟩ := hk
    cases h
    exact ⟨_, List.mem_cons_self, rfl⟩
theorem ints_set (l : List Nat) (j x : Nat) : putAll (ints l) (j * 1) [.int .i64 (x : Int)] = ints (l.set j x) := by
  show putAt (ints l) (j * 1) _ = _
  rw [putAt_eq, Nat.mul_one]
  unfold ints
  rw [List.map_set]
theorem delL_c (w : World) (A D : Option Addr) (l : List Nat) (made : List Bool) (c d b : Nat) (hn : l.length ≤ 2000000) (hm : Mem w (keepH b D made d ++ [irowF A l c, mkF D made])) :
    Con Tryz.prog n_slices_DeleteFunc_int_int #[.slice A l.length c, .func (.func n_knows_lone_1) #[] #[.pointer (some ⟨b, 0, none⟩)]] w (keepH b D made d ++ [irowF A l c]) fun v Fs => v = .slice A (leftL made l).length c ∧ Fs = keepH b D made d ++ [irowF A (leftL made l) c] := by
  have g := good_slices_DeleteFunc_int_int w (Un (keepH b D made d ++ [irowF A l c]))
  have hs0 : Sat (cx_slices_DeleteFunc_int_int w (Un (keepH b D made d ++ [irowF A l c]))) Va.z 0 [] (keepH b D made d ++ [irowF A l c, mkF D made]) w := hm.sat0 rfl (fun f hf ho k hk => by
    simp only [keepH, List.cons_append, List.nil_append, List.mem_cons, List.not_mem_nil, or_false] at hf
    rcases hf with rfl | rfl | rfl
    · exact ⟨_, by simp [keepH], hk⟩
    · exact ⟨_, by simp [keepH], hk⟩
    · cases ho)
  refine con_of_sx (cx := cx_slices_DeleteFunc_int_int w (Un (keepH b D made d ++ [irowF A l c]))) g b_slices_DeleteFunc_int_int rfl rfl (β := Va.z) [.c (.v (.slice A l.length c)), .c (.v (.func (.func n_knows_lone_1) #[] #[.pointer (some ⟨b, 0, none⟩)]))] 0 [] _ rfl rfl hs0 ?_
  have hml := maxLen_eq
  refine call_con [0] (fun β w' hs => idxL_c w' A D l made c d b (row_rd (hs.get 1 rfl)) hn ((asRd hs 1 rfl).mem.take (js := [1, 2, 0]) rfl)) ?_
  rintro v Fs ⟨rfl, rfl⟩
  obtain ⟨f, hf⟩ : ∃ f : Nat → Bool, f = fun n : Nat => markB made (n : Int) := ⟨_, rfl⟩
  obtain ⟨r, hr⟩ : ∃ r : Int, ixF (fun n : Nat => markB made (n : Int)) l = r := ⟨_, rfl⟩
  rw [hr]
  rw [← hf] at hr
  have hK : leftL made l = l.filter (fun n => !f n) := by rw [hf]; rfl
  rw [hK]
  have hfy : ∀ y : Nat, markB made (y : Int) = f y := fun y => by rw [hf]
  refine BIf.dec (fun he => ?_) (fun hne => ?_)
  · have he0 : r = -1 := he
    have hall : l.filter (fun n => !f n) = l := by
      rw [List.filter_eq_self]
      intro n hn'
      cases hfn : f n with
      | false => rfl
      | true =>
        have hany : l.any f = true := List.any_eq_true.2 ⟨n, hn', hfn⟩
        unfold ixF at hr
        rw [if_pos hany] at hr
        omega
    rw [hall]
    intro β w' hs
    exact hs.fin [0, 1] ⟨rfl, rfl⟩ rfl rfl rfl ⟨rfl, rfl, trivial⟩
  · have hne0 : ¬ r = -1 := hne
    have hany : l.any f = true := by
      cases q : l.any f with
      | true => rfl
      | false => unfold ixF at hr; rw [q, if_neg (by decide)] at hr; exact absurd hr.symm hne0
    have hst := DelI.start hany
    obtain ⟨i0, hi0⟩ : ∃ i0, l.findIdx f = i0 := ⟨_, rfl⟩
    rw [hi0] at hst
    obtain rfl : r = (i0 : Int) := by unfold ixF at hr; rw [if_pos hany, hi0] at hr; exact hr.symm
    have hi0l : i0 < l.length := hst.le
    obtain ⟨bA, rfl, hcl⟩ : ∃ bA, A = some ⟨bA, 0, none⟩ ∧ l.length ≤ c := by
      have ho : w.ownsRow 0 ty_int 1 (.slice A l.length c) l.length (ints l) := hm.fact (irowF A l c) (by simp [keepH])
      rcases ho.2 with ⟨q, hz⟩ | ⟨b', cap, cur, hv, _, _, hcc, _⟩
      · omega
      · injection hv with e1 e2 e3
        exact ⟨b', e1, by omega⟩
    refine ⟨((i0 + 1 : Nat) : Int), by rw [wrap_i64 (by omega) (by omega)]; rfl, ?_⟩
    refine loop_rule (ι := Nat × Nat × List Nat) 0 (fun j => [(0, .c (.v (.slice (some ⟨bA, 0, none⟩) l.length c))), (1, .c (.v (.func (.func n_knows_lone_1) #[] #[.pointer (some ⟨b, 0, none⟩)]))), (5, .c (.v (.int .i64 (j.1 : Int)))), (6, .c (.v (.int .i64 (j.2.1 : Int))))]) (fun _ => []) (fun j => keepH b D made d ++ [rowF ty_int 1 (.slice (some ⟨bA, 0, none⟩) l.length c) l.length (ints j.2.2), mkF D made])
      (fun j => DelI f l j.1 j.2.1 j.2.2) (fun j => l.length - j.2.1) (i0, i0 + 1, l) hst (Ent.mk' ⟨rfl, rfl, rfl, rfl, trivial⟩ rfl (fun β w' hs => hs)) g ?_
    rintro ⟨i, j, dk⟩ hI
    simp only at hI
    have hI1 := hI.lt
    have hI2 := hI.le
    have hI3 := hI.len
    refine BIf.dec (fun hlt => ?_) (fun hge => ?_)
    · have hlt0 : (j : Int) < (l.length : Int) := hlt
      obtain ⟨y, hy, -⟩ := at_lt (show j < l.length by omega)
      have hdy : dk[j]? = some y := (hI.high j (Nat.le_refl _)).trans hy
      refine ⟨_, j, rfl, rfl, by omega, .int .i64 (y : Int), fun β w' hs => Rd.cell1 (row_rd (hs.get 1 rfl)) (by simp [ints, hdy]), ?_⟩
      refine Or.inl ⟨by kernel_rfl, ?_⟩
      refine call_con [0] (fun β w' hs => lone1_c w' D made d b (y : Int) (hs.mem.take (js := [0, 2]) rfl)) ?_
      rintro v Fs ⟨rfl, rfl⟩
      rw [hfy]
      cases hb : f y with
      | false =>
        refine ⟨_, i, rfl, rfl, by omega, ?_⟩
        refine ⟨_, fun β w' hs => Sat.rowSet hs (j := 1) (us := [.int .i64 (y : Int)]) rfl (by show i * 1 + 1 ≤ l.length * 1; omega) (fun u hu => by obtain rfl := List.mem_singleton.1 hu; rfl), ?_⟩
        refine ⟨((i + 1 : Nat) : Int), by rw [wrap_i64 (by omega) (by omega)]; rfl, ?_⟩
        refine ⟨((j + 1 : Nat) : Int), by rw [wrap_i64 (by omega) (by omega)]; rfl, ?_⟩
        exact ⟨(i + 1, j + 1, dk.set i y), hI.keep hy hb, by show l.length - (j + 1) < l.length - j; omega, Ent.mk' ⟨rfl, rfl, rfl, rfl, trivial⟩ rfl (fun β w' hs => by
          show Sat _ _ _ _ (keepH b D made d ++ [rowF ty_int 1 (.slice (some ⟨bA, 0, none⟩) l.length c) l.length (ints (dk.set i y)), mkF D made]) _
          rw [← ints_set]
          exact hs)⟩
      | true =>
        refine ⟨((j + 1 : Nat) : Int), by rw [wrap_i64 (by omega) (by omega)]; rfl, ?_⟩
        exact ⟨(i, j + 1, dk), hI.skip hy hb, by show l.length - (j + 1) < l.length - j; omega, Ent.mk' ⟨rfl, rfl, rfl, rfl, trivial⟩ rfl (fun β w' hs => hs)⟩
    · have hge0 : ¬ (j : Int) < (l.length : Int) := hge
      obtain rfl : j = l.length := by omega
      have hlow := hI.low
      rw [List.take_length] at hlow
      rw [← hlow]
      have hdl : (dk.take i).length = i := by rw [List.length_take]; omega
      rw [hdl]
      refine ⟨c, l.length, i, l.length - i, c - i, some ((⟨bA, 0, none⟩ : Addr).add i), rfl, rfl, rfl, Nat.le_refl _, hcl, by omega, rfl, rfl, by unfold cutA; rw [if_neg (by omega)]; show some _ = some _; rw [show ti3.size = 1 from rfl, Nat.mul_one], ?_⟩
      refine ⟨_, _, .c (.v (.tuple #[])), fun β w' ty hs => hs.clearRow g 1 (z0 := .int .i64 0) (m := l.length - i) (q := c - i) rfl (by omega) (by omega) ty _ rfl, trivial, ?_⟩
      refine ⟨c, i, 0, i, c, _, rfl, rfl, rfl, by omega, by omega, by omega, rfl, rfl, rfl, ?_⟩
      intro β w' hs
      have h2 := (hs.perm [1, 0, 2]).lessRow (i := i) rfl (by omega) ⟨bA, rfl⟩
      have e1 : (putAll (ints dk) i (List.replicate (l.length - i) (Value.int .i64 0))).take (i * 1) = ints (dk.take i) := by
        rw [putAll_all _ _ _ (by rw [List.length_replicate]; simp [ints]; omega), Nat.mul_one, List.append_assoc, List.take_append_of_le_length (by rw [List.length_take]; simp [ints]; omega), List.take_take, Nat.min_self]
        unfold ints
        rw [List.map_take]
      rw [e1] at h2
      refine h2.fin [1, 0] ⟨?_, ?_⟩ rfl rfl rfl ⟨rfl, rfl, trivial⟩
      · show Value.slice (cutA (some ⟨bA, 0, none⟩) c 0 1) i c = _
        unfold cutA
        split
        · rfl
        · rfl
      · show [_, rowF ty_int 1 (.slice (some ⟨bA, 0, none⟩) i c) i (ints (dk.take i))] = _
        simp only [irowF, hdl]
        rfl
end Go.Proofs.YtoifclfanabalaaGreatDoor.Sx

/- The only one that isn't made. -/
namespace Go.Proofs.YtoifclfanabalaaGreatDoor.Sx
open Go
attribute [local irreducible] Calls

def loneV : List Nat → Value
  | [k] => .tuple #[.int .i64 (k : Int), .bool true]
  | _ => .tuple #[.int .i64 0, .bool false]
theorem lone_c (w : World) (A D : Option Addr) (l : List Nat) (made : List Bool) (c d : Nat) (hr : Rd 1 A l.length (ints l) w) (hn : l.length ≤ 2000000) (hm : Mem w [rdF 1 A l.length (ints l), mkF D made]) :
    Con Tryz.prog n_knows_lone #[.slice A l.length c, .slice D made.length d] w [] fun v Fs => v = loneV (leftL made l) ∧ Fs = [] := by
  have g := good_knows_lone w (Un [])
  have hs0 : Sat (cx_knows_lone w (Un [])) Va.z 0 [] [rdF 1 A l.length (ints l), mkF D made] w := hm.sat0 rfl (fun f hf ho k hk => by
    simp only [List.mem_cons, List.not_mem_nil, or_false] at hf
    rcases hf with rfl | rfl <;> cases ho)
  refine con_of_tri (cx := cx_knows_lone w (Un [])) g b_knows_lone rfl rfl (β := Va.z) [.c (.v (.slice A l.length c)), .c (.v (.slice D made.length d))] 0 [] _ rfl rfl hs0 ?_
  refine tri_seq g ?_
  refine reify_tri 0 (fun _ => [.slice D made.length d]) rfl rfl (fun _ => rfl) (fun rb => ?_)
  refine tri_seq g ?_
  refine call_con [] (fun β w' hs => cloneI_c w' A l c (hs.get 1 rfl) (by omega)) ?_
  rintro v Fs ⟨A', c', rfl, hlc, hcm, rfl⟩
  refine call_con [1, 0] (fun β w' hs => delL_c w' A' D l made c' d rb hn (hs.mem.take (js := [1, 0, 3]) rfl)) ?_
  rintro v Fs ⟨rfl, rfl⟩
  obtain ⟨L, hL⟩ : ∃ L, leftL made l = L := ⟨_, rfl⟩
  rw [hL]
  refine tri_know (p := 0 < L.length → ∃ ad, A' = some ad) (fun β w' hs h => by
    obtain ⟨ad, q, _⟩ := (row_rd (show (irowF A' L c').p w' from hs.get 1 rfl)).2 h
    exact ⟨ad, q⟩) ?_
  intro hA'
  refine tri_of g ?_
  refine BIf.not (BIf.dec (fun h1 => ?_) (fun h1 => ?_))
  · have h10 : (L.length : Int) = 1 := h1
    obtain ⟨k, rfl⟩ : ∃ k, L = [k] := List.length_eq_one_iff.1 (by omega)
    obtain ⟨ad, rfl⟩ := hA' (Nat.succ_pos 0)
    refine ⟨_, 0, rfl, rfl, Nat.succ_pos 0, .int .i64 (k : Int), fun β w' hs => Rd.cell1 (row_rd (hs.get 1 rfl)) rfl, ?_⟩
    intro β w' hs
    exact hs.fin [] ⟨rfl, rfl⟩
  · have h10 : ¬ (L.length : Int) = 1 := h1
    have hv : loneV L = .tuple #[.int .i64 0, .bool false] := by
      unfold loneV
      split
      · exact absurd rfl h10
      · rfl
    rw [hv]
    intro β w' hs
    exact hs.fin [] ⟨rfl, rfl⟩
end Go.Proofs.YtoifclfanabalaaGreatDoor.Sx

/- What all terms need. -/
namespace Go.Proofs.YtoifclfanabalaaGreatDoor.Sx
open Go
attribute [local irreducible] Calls

structure NdR where
  d : Nd
  A : Option Addr
  c : Nat
def NdR.vs (q : NdR) : List Value := [.slice q.A q.d.of.length q.c, .bool q.d.ok, .bool q.d.turn]
def ndVs (qs : List NdR) : List Value := qs.flatMap NdR.vs
/-- The lists of what is needed: of one's own. -/
def ownN (qs : List NdR) : Fact where
  own := true
  D := fun k => ∃ q ∈ qs, (rdF 1 q.A q.d.of.length (ints q.d.of)).D k
  p := fun w => ∀ q ∈ qs, Rd 1 q.A q.d.of.length (ints q.d.of) w
  st := fun w w' hs h q hq => (rdF 1 q.A q.d.of.length (ints q.d.of)).st w w' (fun k hk => hs k ⟨q, hq, hk⟩) (h q hq)
structure NwN where
  A : Option Addr
  c : Nat
  qs : List NdR
def ndFs (i : NwN) : List Fact := [rowF ty_knows_need 3 (.slice i.A i.qs.length i.c) i.qs.length (ndVs i.qs), ownN i.qs]
def nd0 : NdR := ⟨⟨[], false, false⟩, none, 0⟩
theorem rdD_row {A : Option Addr} {n c : Nat} {xs : List Value} {e s k : Nat} (h : (rdF s A n xs).D k) : (rowF e s (.slice A n c) n xs).D k := by
  obtain ⟨_, ad, rfl, rfl⟩ := h
  rfl
theorem foundS_len (t : List UInt8) : (foundS t).length ≤ 13 * t.length + 9 := by
  unfold foundS
  rw [sortN_len]
  have h1 := setPuts_len (foundL t) []
  have h2 := foundL_len t
  simp only [List.length_nil] at h1
  omega
theorem ndVs_app (qs : List NdR) (q : NdR) : ndVs qs ++ q.vs = ndVs (qs ++ [q]) := by simp [ndVs]
theorem Sat.addN {cx : Cx} {β : Va} {n : Nat} {H : List Bk} {F : List Fact} {w : World} (h : Sat cx β n H F w) (js : List Nat) {qs : List NdR} {A : Option Addr} {l : List Nat} {c : Nat} (e : takeIx F js = [ownN qs, irowF A l c]) (ok turn : Bool) (hn : nodupB js = true := by rfl) : Sat cx β n H (ownN (qs ++ [⟨⟨l, ok, turn⟩, A, c⟩]) :: dropIx js 0 F) w := by
  refine h.fuse js (ownN (qs ++ [⟨⟨l, ok, turn⟩, A, c⟩])) (fun w hm => ?_) (fun k hk => ?_) hn (by rw [e]; exact ⟨rfl, rfl, trivial⟩)
  · rw [e] at hm
    intro q hq
    rcases List.mem_append.1 hq with hq | hq
    · exact (show (ownN qs).p w from hm.fact (ownN qs) List.mem_cons_self) q hq
    · obtain rfl := List.mem_singleton.1 hq
      exact row_rd (show (irowF A l c).p w from hm.fact (irowF A l c) (List.mem_cons_of_mem _ (List.mem_singleton.2 rfl)))
  · rw [e]
    obtain ⟨q, hq, hk⟩ := hk
    rcases List.mem_append.1 hq with hq | hq
    · exact ⟨ownN qs, List.mem_cons_self, q, hq, hk⟩
    · obtain rfl := List.mem_singleton.1 hq
      exact ⟨irowF A l c, List.mem_cons_of_mem _ (List.mem_singleton.2 rfl), rdD_row hk⟩
theorem row_nil {e s n c : Nat} {A : Option Addr} {xs : List Value} {w : World} (h : (rowF e s (.slice A n c) n xs).p w) : A = none → c = 0 := by
  rintro rfl
  rcases h.2 with ⟨q, _⟩ | ⟨g, cap, cur, hv, _⟩
  · injection q
  · cases hv
theorem needs_c (w : World) (x : Md) (B : Bx.Box) (y : Lay) (hts : y.ts.map (·.1) = B.L) (hL : B.L.length ≤ 4096) (hsz : ∀ t ∈ B.L, TSz t) (hkt : ∀ t ∈ B.L, t.key.length ≤ 70000 ∧ t.text.length ≤ 70000) (hsl : ∀ s ∈ x.ss, s.length ≤ 1000000) (hps : x.ps.length ≤ 1000000) (hm : Mem w (mdFs x ++ [bxF x.bx B y, mlF])) :
    Con Tryz.prog n_knows_Mind_needs #[.pointer (some ⟨x.b, 0, none⟩)] w (mdFs x ++ [bxF x.bx B y]) fun v Fs => ∃ i : NwN, v = .slice i.A i.qs.length i.c ∧ i.qs.map (·.d) = ndL x.ss B.L ∧ (0 < i.qs.length → ∃ ad, i.A = some ad) ∧ Fs = ndFs i ++ (mdFs x ++ [bxF x.bx B y]) := by
  have g := good_knows_Mind_needs w (Un (mdFs x ++ [bxF x.bx B y]))
  have hs0 : Sat (cx_knows_Mind_needs w (Un (mdFs x ++ [bxF x.bx B y]))) Va.z 0 [] (mdFs x ++ [bxF x.bx B y, mlF]) w := hm.sat0 rfl (fun f hf ho k hk => by
    rcases List.mem_append.1 hf with hf | hf
    · exact ⟨f, List.mem_append_left _ hf, hk⟩
    · simp only [List.mem_cons, List.not_mem_nil, or_false] at hf
      rcases hf with rfl | rfl
      · exact ⟨_, List.mem_append_right _ (List.mem_singleton.2 rfl), hk⟩
      · cases ho)
  refine con_of_sx (cx := cx_knows_Mind_needs w (Un (mdFs x ++ [bxF x.bx B y]))) g b_knows_Mind_needs rfl rfl (β := Va.z) [.c (.v (.pointer (some ⟨x.b, 0, none⟩)))] 0 [] _ rfl rfl hs0 ?_
  have hml := maxLen_eq
  intro b1
  refine ⟨_, fun β w' hs => cellM_bk (hs.get 1 rfl) (o := 0) rfl, ?_⟩
  refine call_con [] (fun β w' hs => terms_c w' x.bx) ?_
  rintro v Fs ⟨bx, rfl, rfl⟩
  refine range_rule (α := Tm) (ι := NwN) (κ := Unit) g rfl (cv := [.pointer (some ⟨bx, 0, none⟩)]) rfl (by kernel_rfl) 2 (Nat.le_refl 2)
    (fun pre i => pre.map (·.1) = B.L.take pre.length ∧ i.qs.map (·.d) = ⟨[], false, false⟩ :: (pre.map (·.1)).map (ndT x.ss)) (fun i => [⟨1, ty_sl_knows_need, [.v (.slice i.A i.qs.length i.c)]⟩, ⟨0, ty_ptr_knows_Mind, [.v (.pointer (some ⟨x.b, 0, none⟩))]⟩]) (fun i => ndFs i ++ mdFs x) (fun i => ⟨rfl, rfl, rfl, rfl, rfl, trivial⟩)
    (fun e pre i => False) (fun i => []) (fun i => []) (fun i => trivial)
    [bkF bx ty_ptr_box_Box [ptrB x.bx], bxF x.bx B y] [] [mlF] ⟨rfl, rfl, trivial⟩ (fun g h => by obtain rfl := List.mem_singleton.1 h; rfl) ⟨some ⟨b1, 0, none⟩, 1, [nd0]⟩ ⟨rfl, rfl⟩ (fun β w hs => ⟨β, Agr.refl _ _, ?_⟩) (insT B.L)
    (fun xs Fs' => xs.length = B.L.length ∧ Fs' = [bxF x.bx B y]) (fun pre Fs' => pre.length ≤ B.L.length ∧ Fs' = [bxF x.bx B y])
    (fun l w f0 R J Jx hJ0 hJo hRo hY hm => (terms_it l w bx x.bx B y f0 R J Jx hts hL hsz hJ0 hJo hRo hY hm).mono fun _ Fs h => h) ?_ ?_ ?_
  · exact (hs.noMem (ownN [nd0]) (fun q hq => by obtain rfl := List.mem_singleton.1 hq; exact ⟨rfl, fun h => absurd h (by decide)⟩) (fun k hk => by
      obtain ⟨q, hq, _, ad, h, _⟩ := hk
      obtain rfl := List.mem_singleton.1 hq
      cases h)).perm [1, 6, 2, 0, 3, 4, 5, 7]
  · rintro i pre q args X W S l bs pn pn' hbs ⟨hpre, hqs⟩ ⟨rfl, rfl, hq⟩
    obtain ⟨t, a⟩ := q
    simp only at hq
    refine ⟨_, rfl, ?_⟩
    have hpl : pre.length < B.L.length := (List.getElem?_eq_some_iff.1 hq).1
    have hil : i.qs.length = pre.length + 1 := by
      have := congrArg List.length hqs
      simpa using this
    have htm : t ∈ B.L := List.mem_of_getElem? hq
    have htk := hkt t htm
    refine BIf.dec (fun h4 => ?_) (fun h4 => ?_)
    · have h40 : (t.kind : Int) = 4 := h4
      intro b2
      obtain ⟨q, hqd⟩ : ∃ q : NdR, q = ⟨⟨t.list, true, true⟩, a.l, a.lc⟩ := ⟨_, rfl⟩
      obtain ⟨qs', hqs'⟩ : ∃ qs', qs' = i.qs ++ [q] := ⟨_, rfl⟩
      have hql' : i.qs.length + 1 = qs'.length := by rw [hqs', List.length_append]; rfl
      refine ⟨2, i.qs.length, qs'.length, ndVs i.qs, q.vs, ndVs qs', rfl, fun β w' hs => by rw [hqd]; exact row_rd (hs.get 0 rfl), fun u hu => by rw [hqd] at hu; simp only [NdR.vs, List.mem_cons, List.not_mem_nil, or_false] at hu; rcases hu with rfl | rfl | rfl <;> rfl, hql', by rw [hqs', ndVs_app], by rw [hml]; omega, by show qs'.length * 32 ≤ _; omega, ?_⟩
      intro A2 c2 r1 r2 r3
      refine ⟨⟨A2, c2, qs'⟩, ⟨?_, ?_⟩, Ent.mk' trivial rfl (fun β w hs => ?_)⟩
      · show (pre ++ [(t, a)]).map (·.1) = B.L.take (pre ++ [(t, a)]).length
        rw [List.map_append, hpre, List.length_append, List.length_singleton, List.take_add_one, hq]
        rfl
      · show qs'.map (·.d) = _
        rw [hqs', List.map_append, hqs, hqd, List.map_append, List.map_append]
        show _ = _ :: (_ ++ [ndT x.ss t])
        unfold ndT
        rw [if_pos (show t.kind = 4 by omega)]
        rfl
      · have h2 := (hs.unsep 1 rfl).addN [6, 1] rfl true true
        rw [← hqd, ← hqs'] at h2
        have h3 : Sat _ _ (2 + 1) [⟨1, ty_sl_knows_need, [.v (.slice A2 qs'.length c2)]⟩, ⟨0, ty_ptr_knows_Mind, [.v (.pointer (some ⟨x.b, 0, none⟩))]⟩] _ _ := h2.keepB (List.sublist_cons_self _ _)
        exact Sat.lower (n' := 2) (h3.perm [5, 0, 6, 7, 8])
    · have h40 : ¬ (t.kind : Int) = 4 := h4
      refine draw_rule (rcx_good g) p_knows_Mind_needs_6 (by kernel_rfl) [⟨2, ty_box_Term, termS t a⟩, ⟨1, ty_sl_knows_need, [.v (.slice i.A i.qs.length i.c)]⟩, ⟨0, ty_ptr_knows_Mind, [.v (.pointer (some ⟨x.b, 0, none⟩))]⟩] [] (Sub.of (List.Sublist.refl _) (List.nil_sublist _)) ?_
      refine call_con [] (R := fun v Fs => ∃ A' c', v = .slice A' (foundS t.key).length c' ∧ (0 < (foundS t.key).length → ∃ ad, A' = some ad) ∧ Fs = [irowF A' (foundS t.key) c']) (fun β w' hs => Found_c w' a.k t.key a.kc htk.1 (brow_cap ((hs.unsep 0 rfl).get 3 rfl)) (((hs.unsep 0 rfl).rdRow 3 rfl).mem.take (js := [0]) rfl)) ?_
      rintro v Fs ⟨A1, c1, rfl, hA1, rfl⟩
      refine ⟨subPerm [], ?_⟩
      refine call_con [] (R := fun v Fs => ∃ A' c', v = .slice A' (foundS t.text).length c' ∧ (0 < (foundS t.text).length → ∃ ad, A' = some ad) ∧ Fs = [irowF A' (foundS t.text) c']) (fun β w' hs => Found_c w' a.t t.text a.tc htk.2 (brow_cap ((hs.unsep 1 rfl).get 2 rfl)) (((hs.unsep 1 rfl).rdRow 2 rfl).mem.take (js := [0]) rfl)) ?_
      rintro v Fs ⟨A2, c2, rfl, hA2, rfl⟩
      refine ⟨subPerm [], ?_⟩
      obtain ⟨fk, hfk⟩ : ∃ fk, foundS t.key = fk := ⟨_, rfl⟩
      obtain ⟨ft, hft⟩ : ∃ ft, foundS t.text = ft := ⟨_, rfl⟩
      have hfkl := foundS_len t.key
      have hftl := foundS_len t.text
      rw [hfk] at hA1 hfkl ⊢
      rw [hft] at hA2 hftl ⊢
      obtain ⟨of, hof⟩ : ∃ of, of = fk ++ ft := ⟨_, rfl⟩
      have hofl : fk.length + ft.length = of.length := by rw [hof, List.length_append]
      refine ⟨1, fk.length, of.length, ints fk, ints ft, ints of, rfl, fun β w' hs => row_rd (hs.get 0 rfl), ints_one _, hofl, by rw [hof]; simp [ints], by rw [hml]; omega, by show of.length * 8 ≤ _; omega, ?_⟩
      intro A3 c3 r1 r2 r3
      refine ⟨subPerm [], ?_⟩
      refine call_con [5, 6, 7] (R := fun v Fs => v = .bool (betweenB x.ss t.key) ∧ Fs = mdFs x) (hown := ⟨rfl, rfl, rfl, trivial⟩) (fun β w' hs => by
        have u := hs.unsep 2 rfl
        exact between_c w' x a.k t.key a.kc (row_nil (u.get 3 rfl)) (brow_cap (u.get 3 rfl)) htk.1 hsl hps ((u.rdRow 3 rfl).mem.take (js := [8, 9, 10, 0, 11]) rfl)) ?_
      rintro v Fs ⟨rfl, rfl⟩
      refine ⟨subPerm [], ?_⟩
      cases hbk : betweenB x.ss t.key with
      | false =>
        refine ⟨subPerm [], ?_⟩
        intro b2
        refine ⟨subPerm [], ?_⟩
        obtain ⟨q, hqd⟩ : ∃ q : NdR, q = ⟨⟨of, false, false⟩, A3, c3⟩ := ⟨_, rfl⟩
        obtain ⟨qs', hqs'⟩ : ∃ qs', qs' = i.qs ++ [q] := ⟨_, rfl⟩
        have hql' : i.qs.length + 1 = qs'.length := by rw [hqs', List.length_append]; rfl
        refine ⟨7, i.qs.length, qs'.length, ndVs i.qs, q.vs, ndVs qs', rfl, fun β w' hs => by rw [hqd]; exact row_rd (hs.get 0 rfl), fun u hu => by rw [hqd] at hu; simp only [NdR.vs, List.mem_cons, List.not_mem_nil, or_false] at hu; rcases hu with rfl | rfl | rfl <;> rfl, hql', by rw [hqs', ndVs_app], by rw [hml]; omega, by show qs'.length * 32 ≤ _; omega, ?_⟩
        intro A4 c4 p1 p2 p3
        refine ⟨subPerm [], ?_⟩
        refine ⟨⟨A4, c4, qs'⟩, ⟨?_, ?_⟩, Ent.mk' trivial rfl (fun β w hs => ?_)⟩
        · show (pre ++ [(t, a)]).map (·.1) = B.L.take (pre ++ [(t, a)]).length
          rw [List.map_append, hpre, List.length_append, List.length_singleton, List.take_add_one, hq]
          rfl
        · show qs'.map (·.d) = _
          rw [hqs', List.map_append, hqs, hqd, List.map_append, List.map_append]
          show _ = _ :: (_ ++ [ndT x.ss t])
          unfold ndT
          rw [if_neg (show ¬ t.kind = 4 by omega), hfk, hft, ← hof, hbk]
          rfl
        · have h2 := hs.addN [8, 5] rfl false false
          rw [← hqd, ← hqs'] at h2
          have h3 : Sat _ _ (2 + 1) [⟨1, ty_sl_knows_need, [.v (.slice A4 qs'.length c4)]⟩, ⟨0, ty_ptr_knows_Mind, [.v (.pointer (some ⟨x.b, 0, none⟩))]⟩] _ _ := h2.keepB (List.sublist_cons_self _ _)
          exact Sat.lower (n' := 2) (h3.perm [7, 0, 2, 3, 4])
      | true =>
        refine call_con [0, 1, 2] (R := fun v Fs => v = .bool (betweenB x.ss t.text) ∧ Fs = mdFs x) (hown := ⟨rfl, rfl, rfl, trivial⟩) (fun β w' hs => by
          have u := hs.unsep 5 rfl
          exact between_c w' x a.t t.text a.tc (row_nil (u.get 2 rfl)) (brow_cap (u.get 2 rfl)) htk.2 hsl hps ((u.rdRow 2 rfl).mem.take (js := [4, 5, 6, 0, 11]) rfl)) ?_
        rintro v Fs ⟨rfl, rfl⟩
        refine ⟨subPerm [], ?_⟩
        intro b2
        refine ⟨subPerm [], ?_⟩
        obtain ⟨q, hqd⟩ : ∃ q : NdR, q = ⟨⟨of, betweenB x.ss t.text, false⟩, A3, c3⟩ := ⟨_, rfl⟩
        obtain ⟨qs', hqs'⟩ : ∃ qs', qs' = i.qs ++ [q] := ⟨_, rfl⟩
        have hql' : i.qs.length + 1 = qs'.length := by rw [hqs', List.length_append]; rfl
        refine ⟨7, i.qs.length, qs'.length, ndVs i.qs, q.vs, ndVs qs', rfl, fun β w' hs => by rw [hqd]; exact row_rd (hs.get 0 rfl), fun u hu => by rw [hqd] at hu; simp only [NdR.vs, List.mem_cons, List.not_mem_nil, or_false] at hu; rcases hu with rfl | rfl | rfl <;> rfl, hql', by rw [hqs', ndVs_app], by rw [hml]; omega, by show qs'.length * 32 ≤ _; omega, ?_⟩
        intro A4 c4 p1 p2 p3
        refine ⟨subPerm [], ?_⟩
        refine ⟨⟨A4, c4, qs'⟩, ⟨?_, ?_⟩, Ent.mk' trivial rfl (fun β w hs => ?_)⟩
        · show (pre ++ [(t, a)]).map (·.1) = B.L.take (pre ++ [(t, a)]).length
          rw [List.map_append, hpre, List.length_append, List.length_singleton, List.take_add_one, hq]
          rfl
        · show qs'.map (·.d) = _
          rw [hqs', List.map_append, hqs, hqd, List.map_append, List.map_append]
          show _ = _ :: (_ ++ [ndT x.ss t])
          unfold ndT
          rw [if_neg (show ¬ t.kind = 4 by omega), hfk, hft, ← hof, hbk]
          rfl
        · have h2 := hs.addN [8, 5] rfl (betweenB x.ss t.text) false
          rw [← hqd, ← hqs'] at h2
          have h3 : Sat _ _ (2 + 1) [⟨1, ty_sl_knows_need, [.v (.slice A4 qs'.length c4)]⟩, ⟨0, ty_ptr_knows_Mind, [.v (.pointer (some ⟨x.b, 0, none⟩))]⟩] _ _ := h2.keepB (List.sublist_cons_self _ _)
          exact Sat.lower (n' := 2) (h3.perm [7, 0, 2, 3, 4])
  · rintro xs i Fs ⟨hpre, hqs⟩ ⟨hxs, rfl⟩
    have hx : xs.map (·.1) = B.L := by rw [hpre, hxs, List.take_length]
    rw [hx] at hqs
    intro β w' hs
    have hA : 0 < i.qs.length → ∃ ad, i.A = some ad := fun h => by
      obtain ⟨ad, q, _⟩ := (row_rd (show (rowF ty_knows_need 3 (.slice i.A i.qs.length i.c) i.qs.length (ndVs i.qs)).p w' from hs.get 1 rfl)).2 h
      exact ⟨ad, q⟩
    exact (hs.keepB (List.nil_sublist _)).fin [1, 2, 3, 4, 5, 0] ⟨i, rfl, hqs, hA, rfl⟩ rfl rfl rfl ⟨rfl, rfl, rfl, rfl, rfl, rfl, trivial⟩
  · rintro e pre j Fs ⟨⟩
end Go.Proofs.YtoifclfanabalaaGreatDoor.Sx

/- What can be made: the walk. -/
namespace Go.Proofs.YtoifclfanabalaaGreatDoor.Sx
open Go
attribute [local irreducible] Calls

abbrev mrowF (D : Option Addr) (l : List Bool) (d : Nat) : Fact := rowF ty_bool 1 (.slice D l.length d) l.length (l.map Value.bool)
/-- What the asking for the next leaves: at the end the set again. -/
def nxtG (kk : IntKind) (b r : Nat) (l ss : MLI) : Option (Int × Value) → Fact
  | none => mapIF kk b l
  | some x => itIF kk b r l (ss ++ [x]) (some x)
theorem Sat.nextG {cx : Cx} {β : Va} {n : Nat} {H : List Bk} {F : List Fact} {w : World} {kk : IntKind} (h : Sat cx β n H F w) (j : Nat) {b r : Nat} {l ss : MLI} {cur : Option (Int × Value)} (hj : nth F j = some (itIF kk b r l ss cur)) (ty : TypeId) :
    ∃ (o : {o : Option (Int × Value) // NxtI l ss o}) (w' : World), (Instr.next (.pointer (some ⟨r, 0, none⟩)) false ty).run cx.P w = .ok (nxtV kk o.1) w' ∧ Sat cx β n H (putAt F j (nxtG kk b r l ss o.1)) w' := by
  obtain ⟨⟨o, ho⟩, w', e, hs⟩ := h.nextI j hj ty
  have hlt : j < F.length := by rw [nth_eq] at hj; exact (List.getElem?_eq_some_iff.1 hj).1
  refine ⟨⟨o, ho⟩, w', e, ?_⟩
  cases o with
  | some x => exact hs
  | none =>
    have hs2 : Sat cx β n H (putAt F j (itIF kk b r l ss cur)) w' := hs
    have h3 := hs2.endJ j (b := b) (r := r) (l := l) (ss := ss) (cur := cur) (by rw [nth_eq, putAt_eq, List.getElem?_set, if_pos rfl, if_pos hlt])
    rw [putAt_eq, putAt_eq, List.set_set] at h3
    show Sat cx β n H (putAt F j (mapIF kk b l)) w'
    rw [putAt_eq]
    exact h3
theorem repl_bools (N : Nat) : repl [Value.bool false] N = (marksOf N []).map Value.bool := by
  have h : ∀ N, repl [Value.bool false] N = List.replicate N (Value.bool false) := by
    intro N
    induction N with
    | zero => rfl
    | succ k ih => rw [repl, ih]; rfl
  rw [h]
  refine List.ext_getElem (by simp [marksOf]) (fun i h1 h2 => ?_)
  simp [marksOf]
theorem bools_set (l : List Bool) (j : Nat) : putAll (l.map Value.bool) (j * 1) [.bool true] = (l.set j true).map Value.bool := by
  show putAt (l.map Value.bool) (j * 1) _ = _
  rw [putAt_eq, Nat.mul_one, List.map_set]
theorem marks_put {N n : Nat} (ns : List Nat) (h : n < N) : (marksOf N ns).set n true = marksOf N (ns ++ [n]) := by
  refine List.ext_getElem (by simp [marksOf]) (fun i h1 h2 => ?_)
  rw [List.getElem_set]
  simp only [marksOf, List.getElem_map, List.getElem_range, List.mem_append, List.mem_singleton]
  by_cases q : n = i
  · subst q
    simp
  · rw [if_neg q]
    have : ¬ i = n := fun e => q e.symm
    simp [this]
theorem marks_skip {N n : Nat} (ns : List Nat) (h : ¬ n < N) : marksOf N (ns ++ [n]) = marksOf N ns := by
  refine List.ext_getElem (by simp [marksOf]) (fun i h1 h2 => ?_)
  have hi : i < N := by simpa [marksOf] using h2
  simp only [marksOf, List.getElem_map, List.getElem_range, List.mem_append, List.mem_singleton]
  have : ¬ i = n := by omega
  simp [this]
theorem marks_perm {N : Nat} {a b : List Nat} (h : a.Perm b) : marksOf N a = marksOf N b := by
  unfold marksOf
  refine List.map_congr_left (fun i _ => ?_)
  rw [decide_eq_decide]
  exact h.mem_iff
theorem setM_inj {a b : List Nat} (h : (setM a).Perm (setM b)) : a.Perm b := by
  have := h.map (fun q : Int × Value => q.1.toNat)
  simp only [setM, List.map_map] at this
  have e : ((fun q : Int × Value => q.1.toNat) ∘ fun n : Nat => (((n : Nat) : Int), Value.agg #[])) = id := rfl
  rw [e, List.map_id, List.map_id] at this
  exact this
theorem setM_mem {x : Int × Value} {l : List Nat} (h : x ∈ setM l) : ∃ n : Nat, x = ((n : Int), Value.agg #[]) := by
  obtain ⟨n, _, rfl⟩ := List.mem_map.1 h
  exact ⟨n, rfl⟩
theorem elem3 {w : World} {A : Option Addr} {ad : Addr} {n : Nat} {qs : List NdR} (h : Rd 3 A n (ndVs qs) w) (hn : qs.length = n) (hA : A = some ad) {k : Nat} {q : NdR} (hq : qs[k]? = some q) : ∀ j u, q.vs[j]? = some u → w.cell? ((ad.add (k * 3)).add j) = some u := by
  subst hn
  obtain ⟨hil, hie⟩ := List.getElem?_eq_some_iff.1 hq
  have h2 := Rd.elem (f := NdR.vs) (fun _ => rfl) h hA hil
  rw [hie] at h2
  exact h2
theorem all_c (w : World) (x : Md) (B : Bx.Box) (y : Lay) (hts : y.ts.map (·.1) = B.L) (hL : B.L.length ≤ 4096) (hsz : ∀ t ∈ B.L, TSz t) (hkt : ∀ t ∈ B.L, t.key.length ≤ 70000 ∧ t.text.length ≤ 70000) (hsl : ∀ s ∈ x.ss, s.length ≤ 1000000) (hps : x.ps.length ≤ 1000000) (hm : Mem w (mdFs x ++ [bxF x.bx B y, mlF])) :
    Con Tryz.prog n_knows_Mind_all #[.pointer (some ⟨x.b, 0, none⟩)] w (mdFs x ++ [bxF x.bx B y]) fun v Fs => ∃ D R d, v = .slice D (List.length R) d ∧ Least (ndL x.ss B.L) (marksOf (B.L.length + 1) x.seen) R ∧ Fs = mrowF D R d :: (mdFs x ++ [bxF x.bx B y]) := by
  have g := good_knows_Mind_all w (Un (mdFs x ++ [bxF x.bx B y]))
  have hs0 : Sat (cx_knows_Mind_all w (Un (mdFs x ++ [bxF x.bx B y]))) Va.z 0 [] (mdFs x ++ [bxF x.bx B y, mlF]) w := hm.sat0 rfl (fun f hf ho k hk => by
    rcases List.mem_append.1 hf with hf | hf
    · exact ⟨f, List.mem_append_left _ hf, hk⟩
    · simp only [List.mem_cons, List.not_mem_nil, or_false] at hf
      rcases hf with rfl | rfl
      · exact ⟨_, List.mem_append_right _ (List.mem_singleton.2 rfl), hk⟩
      · cases ho)
  refine con_of_sx (cx := cx_knows_Mind_all w (Un (mdFs x ++ [bxF x.bx B y]))) g b_knows_Mind_all rfl rfl (β := Va.z) [.c (.v (.pointer (some ⟨x.b, 0, none⟩)))] 0 [] _ rfl rfl hs0 ?_
  have hml := maxLen_eq
  refine ⟨_, fun β w' hs => cellM_bk (hs.get 0 rfl) (o := 0) rfl, ?_⟩
  refine call_pu (fun β w' hs => lenX_c w' x.bx B y (hs.get 3 rfl) (fun k hk => hs.flt _ (List.mem_of_getElem? (i := 3) rfl) k hk)) ?_
  refine ⟨(((B.L.length + 1) : Nat) : Int), by rw [wrap_i64 (by omega) (by omega)]; rfl, ?_⟩
  obtain ⟨N, hN⟩ : ∃ N, B.L.length + 1 = N := ⟨_, rfl⟩
  rw [hN]
  refine ⟨N, N, rfl, rfl, Nat.le_refl _, by show 1 * N ≤ _; omega, by omega, fun b0 => ?_⟩
  refine ⟨_, fun β w' hs => cellM_bk (hs.get 1 rfl) (o := 2) rfl, ?_⟩
  obtain ⟨rl, hrl⟩ : ∃ rl, rl = repl ti4.zero N := ⟨_, rfl⟩
  refine ⟨Nat, fun r => .pointer (some ⟨r, 0, none⟩), fun r => [rowF ty_bool 1 (.slice (some ⟨b0, 0, none⟩) N N) N ((marksOf N []).map Value.bool), bkF x.b ty_knows_Mind x.vs, secsF x.P x.ps, itIF .i64 x.m r (setM x.seen) [] none, bxF x.bx B y, mlF], fun β w' ty hs => by rw [← repl_bools]; exact hs.rangeI g 3 rfl, fun r => ?_⟩
  refine loop_rule (ι := List Nat × Option (Int × Value)) 0 (fun _ => [(0, .c (.v (.pointer (some ⟨x.b, 0, none⟩)))), (3, .c (.v (.slice (some ⟨b0, 0, none⟩) N N))), (24, .c (.v (.pointer (some ⟨r, 0, none⟩))))]) (fun _ => []) (fun j => [rowF ty_bool 1 (.slice (some ⟨b0, 0, none⟩) N N) N ((marksOf N j.1).map Value.bool), bkF x.b ty_knows_Mind x.vs, secsF x.P x.ps, itIF .i64 x.m r (setM x.seen) (setM j.1) j.2, bxF x.bx B y, mlF])
    (fun j => True) (fun j => x.seen.length - j.1.length) ([], none) trivial (Ent.same ⟨rfl, rfl, rfl, trivial⟩ rfl) g ?_
  rintro ⟨ns, cur⟩ -
  refine ⟨{o : Option (Int × Value) // NxtI (setM x.seen) (setM ns) o}, fun o => nxtV .i64 o.1, fun o => [rowF ty_bool 1 (.slice (some ⟨b0, 0, none⟩) N N) N ((marksOf N ns).map Value.bool), bkF x.b ty_knows_Mind x.vs, secsF x.P x.ps, nxtG .i64 x.m r (setM x.seen) (setM ns) o.1, bxF x.bx B y, mlF], fun β w' ty hs => hs.nextG 3 rfl ty, ?_⟩
  rintro ⟨o, ho⟩
  cases o with
  | some q =>
    obtain ⟨hq1, hq2⟩ : q ∈ setM x.seen ∧ (setM ns).length < (setM x.seen).length := ho
    obtain ⟨n, rfl⟩ := setM_mem hq1
    have hq2 : ns.length < x.seen.length := by simpa [setM] using hq2
    have hsn : setM ns ++ [((n : Int), Value.agg #[])] = setM (ns ++ [n]) := by simp [setM]
    refine ⟨Unit, fun _ => .tuple #[.int .i64 (n : Int), Value.agg #[]], fun _ => [rowF ty_bool 1 (.slice (some ⟨b0, 0, none⟩) N N) N ((marksOf N ns).map Value.bool), bkF x.b ty_knows_Mind x.vs, secsF x.P x.ps, itIF .i64 x.m r (setM x.seen) (setM ns ++ [((n : Int), Value.agg #[])]) (some ((n : Int), Value.agg #[])), bxF x.bx B y, mlF], fun β w' ty hs => ⟨(), w', hs.entryI 3 rfl, hs⟩, fun _ => ?_⟩
    rw [hsn]
    have hmu : x.seen.length - (ns ++ [n]).length < x.seen.length - ns.length := by rw [List.length_append]; show x.seen.length - (ns.length + 1) < _; omega
    refine BIf.dec (fun hlt => ?_) (fun hge => ?_)
    · have hlt0 : (n : Int) < (N : Int) := hlt
      refine ⟨_, n, rfl, rfl, by omega, ?_⟩
      refine ⟨_, fun β w' hs => Sat.rowSet hs (j := 0) (us := [.bool true]) rfl (by show n * 1 + 1 ≤ N * 1; omega) (fun u hu => by obtain rfl := List.mem_singleton.1 hu; rfl), ?_⟩
      refine ⟨(ns ++ [n], some ((n : Int), Value.agg #[])), trivial, hmu, ?_⟩
      simp only [← marks_put ns (show n < N by omega), ← bools_set]
      exact Ent.same ⟨rfl, rfl, rfl, trivial⟩ rfl
    · have hge0 : ¬ (n : Int) < (N : Int) := hge
      refine ⟨(ns ++ [n], some ((n : Int), Value.agg #[])), trivial, hmu, ?_⟩
      simp only [marks_skip ns (show ¬ n < N by omega)]
      exact Ent.same ⟨rfl, rfl, rfl, trivial⟩ rfl
  | none =>
    have hperm : (setM ns).Perm (setM x.seen) := ho
    have hmk : marksOf N ns = marksOf N x.seen := marks_perm (setM_inj hperm)
    rw [hmk]
    refine call_con [1, 2, 3, 4] (R := fun v Fs => ∃ i : NwN, v = .slice i.A i.qs.length i.c ∧ i.qs.map (·.d) = ndL x.ss B.L ∧ (0 < i.qs.length → ∃ ad, i.A = some ad) ∧ Fs = ndFs i ++ (mdFs x ++ [bxF x.bx B y])) (hown := ⟨rfl, rfl, rfl, rfl, trivial⟩) (fun β w' hs => needs_c w' x B y hts hL hsz hkt hsl hps (hs.mem.take (js := [1, 2, 3, 4, 5]) rfl)) ?_
    rintro v Fs ⟨q, rfl, hq, hS, rfl⟩
    obtain ⟨S, sc, qs⟩ := q
    simp only at hq hS
    obtain ⟨nds, hnd⟩ : ∃ nds, ndL x.ss B.L = nds := ⟨_, rfl⟩
    obtain ⟨I, hI⟩ : ∃ I, marksOf N x.seen = I := ⟨_, rfl⟩
    have hIl : I.length = N := by rw [← hI]; exact marksOf_len _ _
    have hndl : nds.length = N := by rw [← hnd, ← hN]; simp [ndL]
    have hsh : ∀ (n : Nat) d, nds[n]? = some d → d.turn = true → d.ok = true ∧ 0 < n := fun n d hd ht => by
      rw [← hnd] at hd
      unfold ndL at hd
      cases n with
      | zero => cases hd; cases ht
      | succ n =>
        rw [List.getElem?_cons_succ, List.getElem?_map] at hd
        cases hL' : B.L[n]? with
        | none => rw [hL'] at hd; cases hd
        | some t =>
          rw [hL'] at hd
          cases hd
          unfold ndT at ht ⊢
          split
          · exact ⟨rfl, Nat.succ_pos _⟩
          · rename_i h4
            rw [if_neg h4] at ht
            cases ht
    have hsz2 : ∀ (n : Nat) d, nds[n]? = some d → d.of.length ≤ 2000000 := fun n d hd => by
      rw [← hnd] at hd
      unfold ndL at hd
      cases n with
      | zero => cases hd; exact Nat.zero_le _
      | succ n =>
        rw [List.getElem?_cons_succ, List.getElem?_map] at hd
        cases hL' : B.L[n]? with
        | none => rw [hL'] at hd; cases hd
        | some t =>
          rw [hL'] at hd
          cases hd
          have hm := List.mem_of_getElem? hL'
          have h1 := (hsz t hm).list
          have h2 := hkt t hm
          unfold ndT
          split
          · show t.list.length ≤ _
            omega
          · show (foundS t.key ++ foundS t.text).length ≤ _
            have h3 := foundS_len t.key
            have h4 := foundS_len t.text
            rw [List.length_append]
            omega
    rw [hnd] at hq ⊢
    rw [hI]
    have hql : qs.length = N := by
      have := congrArg List.length hq
      rw [List.length_map] at this
      omega
    have hq0 : (qs[0]?).map (·.d) = some ⟨[], false, false⟩ := by
      rw [← List.getElem?_map, hq, ← hnd]
      rfl
    clear hnd
    refine loop_rule (ι := List Bool × Bool) 0 (fun j => [(0, .c (.v (.pointer (some ⟨x.b, 0, none⟩)))), (3, .c (.v (.slice (some ⟨b0, 0, none⟩) N N))), (5, .c (.v (.slice S qs.length sc))), (6, .c (.v (.bool j.2)))]) (fun _ => []) (fun j => ndFs ⟨S, sc, qs⟩ ++ (mdFs x ++ [bxF x.bx B y] ++ [rowF ty_bool 1 (.slice (some ⟨b0, 0, none⟩) N N) N (j.1.map Value.bool), mlF]))
      (fun j => Inn nds I j.1 j.1 0 false ∧ (j.2 = false → Least nds I j.1)) (fun j => 2 * cntF j.1 + (if j.2 = true then 1 else 0)) (I, true) ⟨Inn.start (hIl.trans hndl.symm) (Le.refl _) (fun C _ h => h), fun q => by cases q⟩ (Ent.mk' ⟨rfl, rfl, rfl, rfl, trivial⟩ rfl (fun β w' hs => hs)) g ?_
    rintro ⟨m0, more⟩ ⟨hin, hmo⟩
    simp only at hin hmo
    cases more with
    | false =>
      have hle := hmo rfl
      have hlen : m0.length = N := by rw [hin.len]; exact hndl
      intro β w' hs
      refine hs.fin [6, 2, 3, 4, 5] ⟨some ⟨b0, 0, none⟩, m0, N, by rw [hlen]; rfl, hle, ?_⟩ rfl rfl rfl ⟨rfl, rfl, rfl, rfl, rfl, trivial⟩
      unfold mrowF
      rw [hlen]
      rfl
    | true =>
      refine loop_rule (ι := Nat × List Bool × Bool) 0 (fun j => [(0, .c (.v (.pointer (some ⟨x.b, 0, none⟩)))), (3, .c (.v (.slice (some ⟨b0, 0, none⟩) N N))), (5, .c (.v (.slice S qs.length sc))), (6, .c (.v (.bool j.2.2))), (43, .c (.v (.slice S qs.length sc))), (44, .c (.v (.int .i64 (qs.length : Int)))), (45, .c (.v (.int .i64 (j.1 : Int))))]) (fun _ => []) (fun j => ndFs ⟨S, sc, qs⟩ ++ (mdFs x ++ [bxF x.bx B y] ++ [rowF ty_bool 1 (.slice (some ⟨b0, 0, none⟩) N N) N (j.2.1.map Value.bool), mlF]))
        (fun j => Inn nds I m0 j.2.1 j.1 j.2.2 ∧ j.1 ≤ N) (fun j => N - j.1) (0, m0, false) ⟨hin, Nat.zero_le _⟩ (Ent.mk' ⟨rfl, rfl, rfl, rfl, rfl, rfl, rfl, trivial⟩ rfl (fun β w' hs => hs)) g ?_
      rintro ⟨n, made, mo⟩ ⟨hi, hn⟩
      simp only at hi hn
      refine BIf.dec (fun hlt => ?_) (fun hge => ?_)
      · have hlt0 : (n : Int) < (qs.length : Int) := hlt
        obtain ⟨ad, hSA⟩ := hS (by omega)
        obtain ⟨q, hqn, -⟩ := at_lt (show n < qs.length by omega)
        have hd : nds[n]? = some q.d := by rw [← hq, List.getElem?_map, hqn]; rfl
        have hsh1 := hsh n q.d hd
        have hsz1 := hsz2 n q.d hd
        have hmn : made.length = N := hi.len.trans hndl
        refine ⟨ad, n, hSA, rfl, by omega, q.vs, rfl, fun β w' hs => elem3 (row_rd (hs.get 0 rfl)) rfl hSA hqn, ?_⟩
        obtain ⟨⟨of, ok, turn⟩, qA, qc⟩ := q
        simp only at hsh1 hsz1
        obtain ⟨mb, hmb, -⟩ := at_lt (show n < made.length by omega)
        have hmI : IsM made n ↔ mb = true := by rw [isM_iff, hmb, Option.some.injEq]
        have hrdO : ∀ {β : Va} {m : Nat} {H : List Bk} {F : List Fact} {w' : World}, Sat (cx_knows_Mind_all w (Un (mdFs x ++ [bxF x.bx B y]))) β m H F w' → nth F 1 = some (ownN qs) → Rd 1 qA of.length (ints of) w' := fun hs h1 => (show (ownN qs).p _ from hs.get 1 h1) ⟨⟨of, ok, turn⟩, qA, qc⟩ (List.mem_of_getElem? hqn)
        have hmem : ∀ {md : List Bool} {β : Va} {m : Nat} {H : List Bk} {w' : World}, Sat (cx_knows_Mind_all w (Un (mdFs x ++ [bxF x.bx B y]))) β m H (ndFs ⟨S, sc, qs⟩ ++ (mdFs x ++ [bxF x.bx B y] ++ [rowF ty_bool 1 (.slice (some ⟨b0, 0, none⟩) N N) N (md.map Value.bool), mlF])) w' → Mem w' [rdF 1 qA of.length (ints of), rdF 1 (some ⟨b0, 0, none⟩) N (md.map Value.bool)] := fun {md} {β} {m} {H} {w'} hs => by
          have h2 := (asRd hs 6 rfl).asRo 2 rfl
          exact (h2.ofRo 2 rfl (rdF 1 qA of.length (ints of)) rfl (hrdO hs rfl) (fun k hk => ⟨_, List.mem_of_getElem? hqn, hk⟩)).mem.take (js := [0, 1]) rfl
        have hCn : ∀ (md : List Bool) (w' : World), md.length = N → Rd 1 qA of.length (ints of) w' → Mem w' [rdF 1 qA of.length (ints of), rdF 1 (some ⟨b0, 0, none⟩) N (md.map Value.bool)] → Con Tryz.prog n_knows_have #[.slice qA of.length qc, .slice (some ⟨b0, 0, none⟩) N N] w' [] (fun v Fs => v = .bool (haveB of md) ∧ Fs = []) := fun md w' hl hr hm => by
          have h := have_c w' qA (some ⟨b0, 0, none⟩) of md qc N hr hsz1 (by unfold mkF; rw [hl]; exact hm)
          rw [hl] at h
          exact h
        have hLn : ∀ (md : List Bool) (w' : World), md.length = N → Rd 1 qA of.length (ints of) w' → Mem w' [rdF 1 qA of.length (ints of), rdF 1 (some ⟨b0, 0, none⟩) N (md.map Value.bool)] → Con Tryz.prog n_knows_lone #[.slice qA of.length qc, .slice (some ⟨b0, 0, none⟩) N N] w' [] (fun v Fs => v = loneV (leftL md of) ∧ Fs = []) := fun md w' hl hr hm => by
          have h := lone_c w' qA (some ⟨b0, 0, none⟩) of md qc N hr hsz1 (by unfold mkF; rw [hl]; exact hm)
          rw [hl] at h
          exact h
        cases turn with
        | true =>
          obtain ⟨rfl, h0⟩ := hsh1 rfl
          refine BIf.dec (fun hlt => ?_) (fun hge => absurd (show (0 : Int) < (n : Int) by omega) hge)
          refine ⟨_, n, rfl, rfl, by omega, ?_⟩
          refine ⟨.bool mb, fun β w' hs => Rd.cell1 (row_rd (show (rowF ty_bool 1 (.slice (some ⟨b0, 0, none⟩) N N) N (made.map Value.bool)).p w' from hs.get 6 rfl)) (by rw [List.getElem?_map, hmb]; rfl), ?_⟩
          cases mb with
          | true =>
            have hm2 : IsM made n := hmI.2 rfl
            have hl2 := hmn
            have hM : Mid nds I m0 made n mo ⟨of, true, true⟩ := hi.mid_no (fun _ _ _ => hm2)
            refine ⟨_, n, rfl, rfl, by omega, ?_⟩
            refine ⟨.bool true, fun β w' hs => Rd.cell1 (row_rd (show (rowF ty_bool 1 (.slice (some ⟨b0, 0, none⟩) N N) N (made.map Value.bool)).p w' from hs.get 6 rfl)) (by rw [List.getElem?_map, isM_iff.1 hm2]; rfl), ?_⟩
            refine call_con [] (fun β w' hs => hLn made w' hl2 (hrdO hs rfl) (hmem hs)) ?_
            rintro v Fs ⟨rfl, rfl⟩
            obtain ⟨L, hL⟩ : ∃ L, leftL made of = L := ⟨_, rfl⟩
            rw [hL]
            match L, hL with
            | [], hL =>
              refine ⟨((n + 1 : Nat) : Int), by rw [wrap_i64 (by omega) (by omega)]; rfl, ?_⟩
              exact ⟨(n + 1, made, mo), ⟨hM.next_no hd (fun _ _ _ k hk => by rw [hL] at hk; cases hk), by show n + 1 ≤ N; omega⟩, by show N - (n + 1) < N - n; omega, Ent.mk' ⟨rfl, rfl, rfl, rfl, rfl, rfl, rfl, trivial⟩ rfl (fun β w' hs => (hs.keepB (List.nil_sublist _)).lower)⟩
            | [k], hL =>
              refine BIf.dec (fun hk => ?_) (fun hk => ?_)
              · have hk0 : (k : Int) < (N : Int) := hk
                refine ⟨_, k, rfl, rfl, by omega, ?_⟩
                refine ⟨_, fun β w' hs => Sat.rowSet hs (j := 6) (us := [.bool true]) rfl (by show k * 1 + 1 ≤ N * 1; omega) (fun u hu => by obtain rfl := List.mem_singleton.1 hu; rfl), ?_⟩
                refine ⟨((n + 1 : Nat) : Int), by rw [wrap_i64 (by omega) (by omega)]; rfl, ?_⟩
                refine ⟨(n + 1, made.set k true, true), ⟨hM.next_put hd h0 rfl hm2 hL (by omega), by show n + 1 ≤ N; omega⟩, by show N - (n + 1) < N - n; omega, ?_⟩
                simp only [← bools_set]
                exact Ent.mk' ⟨rfl, rfl, rfl, rfl, rfl, rfl, rfl, trivial⟩ rfl (fun β w' hs => (hs.keepB (List.nil_sublist _)).lower)
              · have hk0 : ¬ (k : Int) < (N : Int) := hk
                refine ⟨((n + 1 : Nat) : Int), by rw [wrap_i64 (by omega) (by omega)]; rfl, ?_⟩
                exact ⟨(n + 1, made, mo), ⟨hM.next_no hd (fun _ _ _ k2 hk2 hlt2 => by rw [hL] at hk2; cases hk2; omega), by show n + 1 ≤ N; omega⟩, by show N - (n + 1) < N - n; omega, Ent.mk' ⟨rfl, rfl, rfl, rfl, rfl, rfl, rfl, trivial⟩ rfl (fun β w' hs => (hs.keepB (List.nil_sublist _)).lower)⟩
            | a :: b :: r, hL =>
              refine ⟨((n + 1 : Nat) : Int), by rw [wrap_i64 (by omega) (by omega)]; rfl, ?_⟩
              exact ⟨(n + 1, made, mo), ⟨hM.next_no hd (fun _ _ _ k hk => by rw [hL] at hk; cases hk), by show n + 1 ≤ N; omega⟩, by show N - (n + 1) < N - n; omega, Ent.mk' ⟨rfl, rfl, rfl, rfl, rfl, rfl, rfl, trivial⟩ rfl (fun β w' hs => (hs.keepB (List.nil_sublist _)).lower)⟩
          | false =>
            have hm2' : ¬ IsM made n := fun q => by have := hmI.1 q; cases this
            refine call_con [] (fun β w' hs => hCn made w' hmn (hrdO hs rfl) (hmem hs)) ?_
            rintro v Fs ⟨rfl, rfl⟩
            cases hv : haveB of made with
            | true =>
              refine ⟨_, n, rfl, rfl, by omega, ?_⟩
              refine ⟨_, fun β w' hs => Sat.rowSet hs (j := 6) (us := [.bool true]) rfl (by show n * 1 + 1 ≤ N * 1; omega) (fun u hu => by obtain rfl := List.mem_singleton.1 hu; rfl), ?_⟩
              have hm2 : IsM (made.set n true) n := (isM_set (by omega)).2 (.inr rfl)
              have hl2 : (made.set n true).length = N := by rw [List.length_set]; exact hmn
              have hM : Mid nds I m0 (made.set n true) n true ⟨of, true, true⟩ := hi.mid_put hd h0 hm2' rfl hv
              refine ⟨_, n, rfl, rfl, by omega, ?_⟩
              refine ⟨.bool true, fun β w' hs => Rd.cell1 (row_rd (show (rowF ty_bool 1 (.slice (some ⟨b0, 0, none⟩) N N) N ((made.set n true).map Value.bool)).p w' from (by rw [← bools_set]; exact hs.get 6 rfl))) (by rw [List.getElem?_map, isM_iff.1 hm2]; rfl), ?_⟩
              refine call_con [] (fun β w' hs => hLn (made.set n true) w' hl2 (hrdO hs rfl) (hmem (md := made.set n true) (by rw [← bools_set]; exact hs))) ?_
              rintro v Fs ⟨rfl, rfl⟩
              obtain ⟨L, hL⟩ : ∃ L, leftL (made.set n true) of = L := ⟨_, rfl⟩
              rw [hL]
              match L, hL with
              | [], hL =>
                refine ⟨((n + 1 : Nat) : Int), by rw [wrap_i64 (by omega) (by omega)]; rfl, ?_⟩
                refine ⟨(n + 1, made.set n true, true), ⟨hM.next_no hd (fun _ _ _ k hk => by rw [hL] at hk; cases hk), by show n + 1 ≤ N; omega⟩, by show N - (n + 1) < N - n; omega, ?_⟩
                simp only [← bools_set]
                exact Ent.mk' ⟨rfl, rfl, rfl, rfl, rfl, rfl, rfl, trivial⟩ rfl (fun β w' hs => (hs.keepB (List.nil_sublist _)).lower)
              | [k], hL =>
                refine BIf.dec (fun hk => ?_) (fun hk => ?_)
                · have hk0 : (k : Int) < (N : Int) := hk
                  refine ⟨_, k, rfl, rfl, by omega, ?_⟩
                  refine ⟨_, fun β w' hs => Sat.rowSet hs (j := 6) (us := [.bool true]) rfl (by show k * 1 + 1 ≤ N * 1; omega) (fun u hu => by obtain rfl := List.mem_singleton.1 hu; rfl), ?_⟩
                  refine ⟨((n + 1 : Nat) : Int), by rw [wrap_i64 (by omega) (by omega)]; rfl, ?_⟩
                  refine ⟨(n + 1, (made.set n true).set k true, true), ⟨hM.next_put hd h0 rfl hm2 hL (by omega), by show n + 1 ≤ N; omega⟩, by show N - (n + 1) < N - n; omega, ?_⟩
                  simp only [← bools_set]
                  exact Ent.mk' ⟨rfl, rfl, rfl, rfl, rfl, rfl, rfl, trivial⟩ rfl (fun β w' hs => (hs.keepB (List.nil_sublist _)).lower)
                · have hk0 : ¬ (k : Int) < (N : Int) := hk
                  refine ⟨((n + 1 : Nat) : Int), by rw [wrap_i64 (by omega) (by omega)]; rfl, ?_⟩
                  refine ⟨(n + 1, made.set n true, true), ⟨hM.next_no hd (fun _ _ _ k2 hk2 hlt2 => by rw [hL] at hk2; cases hk2; omega), by show n + 1 ≤ N; omega⟩, by show N - (n + 1) < N - n; omega, ?_⟩
                  simp only [← bools_set]
                  exact Ent.mk' ⟨rfl, rfl, rfl, rfl, rfl, rfl, rfl, trivial⟩ rfl (fun β w' hs => (hs.keepB (List.nil_sublist _)).lower)
              | a :: b :: r, hL =>
                refine ⟨((n + 1 : Nat) : Int), by rw [wrap_i64 (by omega) (by omega)]; rfl, ?_⟩
                refine ⟨(n + 1, made.set n true, true), ⟨hM.next_no hd (fun _ _ _ k hk => by rw [hL] at hk; cases hk), by show n + 1 ≤ N; omega⟩, by show N - (n + 1) < N - n; omega, ?_⟩
                simp only [← bools_set]
                exact Ent.mk' ⟨rfl, rfl, rfl, rfl, rfl, rfl, rfl, trivial⟩ rfl (fun β w' hs => (hs.keepB (List.nil_sublist _)).lower)
            | false =>
              refine ⟨_, n, rfl, rfl, by omega, ?_⟩
              refine ⟨.bool false, fun β w' hs => Rd.cell1 (row_rd (show (rowF ty_bool 1 (.slice (some ⟨b0, 0, none⟩) N N) N (made.map Value.bool)).p w' from hs.get 6 rfl)) (by rw [List.getElem?_map, hmb]; rfl), ?_⟩
              refine ⟨((n + 1 : Nat) : Int), by rw [wrap_i64 (by omega) (by omega)]; rfl, ?_⟩
              exact ⟨(n + 1, made, mo), ⟨(hi.mid_no (d := ⟨of, true, true⟩) (fun _ _ q => by rw [hv] at q; cases q)).next_no hd (fun _ _ q => absurd q hm2'), by show n + 1 ≤ N; omega⟩, by show N - (n + 1) < N - n; omega, Ent.mk' ⟨rfl, rfl, rfl, rfl, rfl, rfl, rfl, trivial⟩ rfl (fun β w' hs => (hs.keepB (List.nil_sublist _)).lower)⟩
        | false =>
          refine BIf.dec (fun hlt => ?_) (fun hge => ?_)
          · have h0 : (0 : Int) < (n : Int) := hlt
            refine ⟨_, n, rfl, rfl, by omega, ?_⟩
            refine ⟨.bool mb, fun β w' hs => Rd.cell1 (row_rd (show (rowF ty_bool 1 (.slice (some ⟨b0, 0, none⟩) N N) N (made.map Value.bool)).p w' from hs.get 6 rfl)) (by rw [List.getElem?_map, hmb]; rfl), ?_⟩
            cases mb with
            | true =>
              have hm2 : IsM made n := hmI.2 rfl
              refine ⟨((n + 1 : Nat) : Int), by rw [wrap_i64 (by omega) (by omega)]; rfl, ?_⟩
              exact ⟨(n + 1, made, mo), ⟨(hi.mid_no (d := ⟨of, ok, false⟩) (fun _ _ _ => hm2)).next_no hd (fun _ q => by cases q), by show n + 1 ≤ N; omega⟩, by show N - (n + 1) < N - n; omega, Ent.mk' ⟨rfl, rfl, rfl, rfl, rfl, rfl, rfl, trivial⟩ rfl (fun β w' hs => (hs.keepB (List.nil_sublist _)).lower)⟩
            | false =>
              have hm2' : ¬ IsM made n := fun q => by have := hmI.1 q; cases this
              cases ok with
              | false =>
                refine ⟨((n + 1 : Nat) : Int), by rw [wrap_i64 (by omega) (by omega)]; rfl, ?_⟩
                exact ⟨(n + 1, made, mo), ⟨(hi.mid_no (d := ⟨of, false, false⟩) (fun _ q => by cases q)).next_no hd (fun _ q => by cases q), by show n + 1 ≤ N; omega⟩, by show N - (n + 1) < N - n; omega, Ent.mk' ⟨rfl, rfl, rfl, rfl, rfl, rfl, rfl, trivial⟩ rfl (fun β w' hs => (hs.keepB (List.nil_sublist _)).lower)⟩
              | true =>
                refine call_con [] (fun β w' hs => hCn made w' hmn (hrdO hs rfl) (hmem hs)) ?_
                rintro v Fs ⟨rfl, rfl⟩
                cases hv : haveB of made with
                | true =>
                  refine ⟨_, n, rfl, rfl, by omega, ?_⟩
                  refine ⟨_, fun β w' hs => Sat.rowSet hs (j := 6) (us := [.bool true]) rfl (by show n * 1 + 1 ≤ N * 1; omega) (fun u hu => by obtain rfl := List.mem_singleton.1 hu; rfl), ?_⟩
                  refine ⟨((n + 1 : Nat) : Int), by rw [wrap_i64 (by omega) (by omega)]; rfl, ?_⟩
                  refine ⟨(n + 1, made.set n true, true), ⟨(hi.mid_put hd (show 0 < n by omega) hm2' rfl hv).next_no hd (fun _ q => by cases q), by show n + 1 ≤ N; omega⟩, by show N - (n + 1) < N - n; omega, ?_⟩
                  simp only [← bools_set]
                  exact Ent.mk' ⟨rfl, rfl, rfl, rfl, rfl, rfl, rfl, trivial⟩ rfl (fun β w' hs => (hs.keepB (List.nil_sublist _)).lower)
                | false =>
                  refine ⟨((n + 1 : Nat) : Int), by rw [wrap_i64 (by omega) (by omega)]; rfl, ?_⟩
                  exact ⟨(n + 1, made, mo), ⟨(hi.mid_no (d := ⟨of, true, false⟩) (fun _ _ q => by rw [hv] at q; cases q)).next_no hd (fun _ q => by cases q), by show n + 1 ≤ N; omega⟩, by show N - (n + 1) < N - n; omega, Ent.mk' ⟨rfl, rfl, rfl, rfl, rfl, rfl, rfl, trivial⟩ rfl (fun β w' hs => (hs.keepB (List.nil_sublist _)).lower)⟩
          · have h0 : ¬ (0 : Int) < (n : Int) := hge
            refine ⟨((n + 1 : Nat) : Int), by rw [wrap_i64 (by omega) (by omega)]; rfl, ?_⟩
            exact ⟨(n + 1, made, mo), ⟨(hi.mid_no (d := ⟨of, ok, false⟩) (fun q => absurd q (by omega))).next_no hd (fun q => absurd q (by omega)), by show n + 1 ≤ N; omega⟩, by show N - (n + 1) < N - n; omega, Ent.mk' ⟨rfl, rfl, rfl, rfl, rfl, rfl, rfl, trivial⟩ rfl (fun β w' hs => (hs.keepB (List.nil_sublist _)).lower)⟩
      · have hge0 : ¬ (n : Int) < (qs.length : Int) := hge
        obtain rfl : n = N := by omega
        have hi2 : Inn nds I m0 made nds.length mo := by rw [hndl]; exact hi
        refine ⟨(made, mo), ⟨Inn.start hi.len hi.le0 hi.least, fun q => by obtain rfl : mo = false := q; exact hi2.done⟩, ?_, Ent.mk' ⟨rfl, rfl, rfl, rfl, trivial⟩ rfl (fun β w' hs => hs)⟩
        show (2 * cntF made + if mo = true then 1 else 0) < 2 * cntF m0 + 1
        have hc := hi.cnt
        cases mo with
        | false => simp; omega
        | true => have := hi.lt rfl; simp; omega
end Go.Proofs.YtoifclfanabalaaGreatDoor.Sx

/- Can a handle be made? And what is found in a short text, and in a handle. -/
namespace Go.Proofs.YtoifclfanabalaaGreatDoor.Sx
open Go
attribute [local irreducible] Calls

theorem made_c (w : World) (x : Md) (B : Bx.Box) (y : Lay) (n : Int) (hts : y.ts.map (·.1) = B.L) (hL : B.L.length ≤ 4096) (hsz : ∀ t ∈ B.L, TSz t) (hkt : ∀ t ∈ B.L, t.key.length ≤ 70000 ∧ t.text.length ≤ 70000) (hsl : ∀ s ∈ x.ss, s.length ≤ 1000000) (hps : x.ps.length ≤ 1000000) (hm : Mem w (mdFs x ++ [bxF x.bx B y, mlF])) :
    Con Tryz.prog n_knows_Mind_Made #[.pointer (some ⟨x.b, 0, none⟩), .int .i64 n] w (mdFs x ++ [bxF x.bx B y]) fun v Fs => ∃ R, Least (ndL x.ss B.L) (marksOf (B.L.length + 1) x.seen) R ∧ v = .bool (markB R n) ∧ Fs = mdFs x ++ [bxF x.bx B y] := by
  have g := good_knows_Mind_Made w (Un (mdFs x ++ [bxF x.bx B y]))
  have hs0 : Sat (cx_knows_Mind_Made w (Un (mdFs x ++ [bxF x.bx B y]))) Va.z 0 [] (mdFs x ++ [bxF x.bx B y, mlF]) w := hm.sat0 rfl (fun f hf ho k hk => by
    rcases List.mem_append.1 hf with hf | hf
    · exact ⟨f, List.mem_append_left _ hf, hk⟩
    · simp only [List.mem_cons, List.not_mem_nil, or_false] at hf
      rcases hf with rfl | rfl
      · exact ⟨_, List.mem_append_right _ (List.mem_singleton.2 rfl), hk⟩
      · cases ho)
  refine con_of_sx (cx := cx_knows_Mind_Made w (Un (mdFs x ++ [bxF x.bx B y]))) g b_knows_Mind_Made rfl rfl (β := Va.z) [.c (.v (.pointer (some ⟨x.b, 0, none⟩))), .c (.v (.int .i64 n))] 0 [] _ rfl rfl hs0 ?_
  refine call_con [0, 1, 2, 3] (R := fun v Fs => ∃ D R d, v = .slice D (List.length R) d ∧ Least (ndL x.ss B.L) (marksOf (B.L.length + 1) x.seen) R ∧ Fs = mrowF D R d :: (mdFs x ++ [bxF x.bx B y])) (hown := ⟨rfl, rfl, rfl, rfl, trivial⟩) (fun β w' hs => all_c w' x B y hts hL hsz hkt hsl hps hs.mem) ?_
  rintro v Fs ⟨D, R, d, rfl, hR, rfl⟩
  refine call_pu (fun β w' hs => marked_c w' D R d n (row_rd (hs.get 0 rfl))) ?_
  intro β w' hs
  exact hs.fin [1, 2, 3, 4] ⟨R, hR, rfl, rfl⟩ rfl rfl rfl ⟨rfl, rfl, rfl, rfl, trivial⟩
theorem mem_setPut {l : List Nat} {n m : Nat} : m ∈ setPut l n ↔ m ∈ l ∨ m = n := by
  unfold setPut
  split
  · rename_i h
    exact ⟨.inl, fun q => q.elim id (fun e => e ▸ h)⟩
  · rw [List.mem_append, List.mem_singleton]
theorem mem_setPuts : ∀ {ns l : List Nat} {m : Nat}, m ∈ ns.foldl setPut l ↔ m ∈ l ∨ m ∈ ns
  | [], l, m => by simp
  | n :: r, l, m => by
    rw [List.foldl_cons, mem_setPuts, mem_setPut, List.mem_cons, or_assoc]
theorem mem_foundS {t : List UInt8} {n : Nat} : n ∈ foundS t ↔ n ∈ foundL t := by
  unfold foundS sortN
  rw [List.mem_mergeSort, mem_setPuts]
  simp
theorem nums_short {t : List UInt8} (h : t.length < 32) : numsL t = [] := by
  unfold numsL
  rw [scan_end (by omega)]
  rfl
theorem foundL_short {t : List UInt8} (h : t.length + 3 < 32) : foundL t = [] := by
  unfold foundL
  rw [nums_short (by omega), List.nil_append, List.flatMap_eq_nil_iff]
  intro s hs
  rw [List.flatMap_eq_nil_iff]
  intro q hq
  have h1 := runsA_len hs
  have h2 := readL_len hq
  exact nums_short (by omega)
theorem foundS_short {t : List UInt8} (h : t.length + 3 < 32) : foundS t = [] := by
  unfold foundS
  rw [foundL_short h]
  simp [sortN]
theorem scan_handle {n : Nat} (hn : n < 4294967296) (h0 : 0 < n) : scan (Bx.handle n) 0 = [(0, n)] := by
  have hl := Bx.handle_len n
  have hh : hit (Bx.handle n) 0 = some n := by
    unfold hit
    rw [List.drop_zero, List.take_of_length_le (by omega), Bx.looks_handle hn]
    simp only
    rw [if_pos h0]
  rw [scan_hit (by omega) hh, scan_end (by omega)]
theorem found_handle {n : Nat} (hn : n < 4294967296) (h0 : 0 < n) : n ∈ foundS (Bx.handle n) := by
  rw [mem_foundS]
  unfold foundL numsL
  rw [scan_handle hn h0]
  simp
theorem between_short {ss : List (List UInt8)} {p : List UInt8} (h : p.length < 32) : betweenB ss p = plainB ss p := by
  unfold betweenB
  rw [scan_end (by omega)]
  simp [gaps]
end Go.Proofs.YtoifclfanabalaaGreatDoor.Sx

/- The document's list of what is found is the program's. -/
namespace Go.Proofs.YtoifclfanabalaaGreatDoor.Sx
open Go
attribute [local irreducible] Calls

theorem drop_less : ∀ (l : List Nat) (n : Nat), l.drop (lessT l n).length = l.dropWhile fun x => decide (x < n)
  | [], _ => rfl
  | x :: r, n => by
    have ih := drop_less r n
    unfold lessT at ih ⊢
    by_cases h : x < n
    · rw [List.takeWhile_cons_of_pos (by simpa using h), List.dropWhile_cons_of_pos (by simpa using h), List.length_cons, List.drop_succ_cons]
      exact ih
    · rw [List.takeWhile_cons_of_neg (by simpa using h), List.dropWhile_cons_of_neg (by simpa using h)]
      rfl
theorem lessT_split (l : List Nat) (n : Nat) : l = lessT l n ++ l.drop (lessT l n).length := by
  rw [drop_less]
  exact (List.takeWhile_append_dropWhile ..).symm
theorem putL_mem {l : List Nat} {n m : Nat} : m ∈ putL l n ↔ m ∈ l ∨ m = n := by
  unfold putL
  split
  · rename_i h
    exact ⟨.inl, fun q => q.elim id (fun e => e ▸ h)⟩
  · conv => rhs; rw [lessT_split l n]
    rw [List.mem_append, List.mem_append, List.mem_cons]
    constructor
    · rintro (h | h | h)
      · exact .inl (.inl h)
      · exact .inr h
      · exact .inl (.inr h)
    · rintro ((h | h) | h)
      · exact .inl h
      · exact .inr (.inr h)
      · exact .inr (.inl h)
theorem putsL_mem : ∀ {ns l : List Nat} {m : Nat}, m ∈ ns.foldl putL l ↔ m ∈ l ∨ m ∈ ns
  | [], l, m => by simp
  | n :: r, l, m => by
    rw [List.foldl_cons, putsL_mem, putL_mem, List.mem_cons, or_assoc]
theorem putL_rise {l : List Nat} {n : Nat} (h : l.Pairwise (· < ·)) : (putL l n).Pairwise (· < ·) := by
  unfold putL
  split
  · exact h
  · rename_i hno
    have hs := lessT_split l n
    have hlt : ∀ x ∈ lessT l n, x < n := fun x hx => by
      have := List.all_eq_true.1 (List.all_takeWhile (p := fun x => decide (x < n)) (l := l)) x hx
      simpa using this
    have hp := h
    rw [hs] at hp
    obtain ⟨h1, h2, h3⟩ := List.pairwise_append.1 hp
    refine List.pairwise_append.2 ⟨h1, List.pairwise_cons.2 ⟨fun y hy => ?_, h2⟩, fun x hx y hy => ?_⟩
    · -- what stands behind is greater
      have hge : ∀ z, (l.drop (lessT l n).length).head? = some z → ¬ z < n := fun z hz q => by
        rw [drop_less] at hz
        have := List.head?_dropWhile_not (fun x => decide (x < n)) l
        rw [hz] at this
        simp at this
        omega
      have hy' : y ≠ n := fun q => hno (by have h9 := List.mem_of_mem_drop hy; rwa [q] at h9)
      cases hd : l.drop (lessT l n).length with
      | nil => rw [hd] at hy; cases hy
      | cons z r =>
        have hz := hge z (by rw [hd]; rfl)
        rw [hd] at hy h2
        have hz' : z ≠ n := fun q => hno (by have h9 : z ∈ l := List.mem_of_mem_drop (by rw [hd]; exact List.mem_cons_self); rwa [q] at h9)
        rcases List.mem_cons.1 hy with rfl | hy
        · omega
        · have := (List.pairwise_cons.1 h2).1 y hy
          omega
    · rcases List.mem_cons.1 hy with rfl | hy
      · exact hlt x hx
      · exact h3 x hx y hy
theorem putsL_rise : ∀ {ns l : List Nat}, l.Pairwise (· < ·) → (ns.foldl putL l).Pairwise (· < ·)
  | [], _, h => h
  | n :: r, l, h => putsL_rise (ns := r) (putL_rise h)
theorem setPut_nodup {l : List Nat} {n : Nat} (h : l.Nodup) : (setPut l n).Nodup := by
  unfold setPut
  split
  · exact h
  · rename_i hn
    exact List.nodup_append.2 ⟨h, List.nodup_cons.2 ⟨fun q => (by cases q), List.nodup_nil⟩, fun a ha b hb q => by
      obtain rfl := List.mem_singleton.1 hb
      exact hn (q ▸ ha)⟩
theorem setPuts_nodup : ∀ {ns l : List Nat}, l.Nodup → (ns.foldl setPut l).Nodup
  | [], _, h => h
  | n :: r, l, h => setPuts_nodup (ns := r) (setPut_nodup h)
theorem foundS_rise (t : List UInt8) : (foundS t).Pairwise (· < ·) := by
  have hn : ((foundL t).foldl setPut []).Nodup := setPuts_nodup List.nodup_nil
  unfold foundS sortN
  have h1 := List.pairwise_mergeSort (le := fun x y => decide (x ≤ y)) (fun a b c p q => by simp only [decide_eq_true_eq] at *; omega) (fun a b => by simp only [Bool.or_eq_true, decide_eq_true_eq]; omega) ((foundL t).foldl setPut [])
  have h2 : (((foundL t).foldl setPut []).mergeSort (fun x y => decide (x ≤ y))).Nodup := (List.mergeSort_perm _ _).nodup_iff.2 hn
  refine (h1.and h2).imp fun {a b} q => ?_
  have := of_decide_eq_true q.1
  have := q.2
  omega
theorem puts_found (t : List UInt8) : (foundL t).foldl putL [] = foundS t := by
  refine List.Perm.eq_of_pairwise (le := fun a b => a < b) (fun a b _ _ p q => absurd p (by omega)) (putsL_rise List.Pairwise.nil) (foundS_rise t) ?_
  refine (List.perm_ext_iff_of_nodup ((putsL_rise List.Pairwise.nil).imp fun h => Nat.ne_of_lt h) ((foundS_rise t).imp fun h => Nat.ne_of_lt h)).2 fun m => ?_
  rw [putsL_mem, mem_foundS]
  simp
end Go.Proofs.YtoifclfanabalaaGreatDoor.Sx

/- Names as they are asked for: their tables. May it be salted so? -/
namespace Go.Proofs.YtoifclfanabalaaGreatDoor.Sx
open Go
attribute [local irreducible] Calls

end Go.Proofs.YtoifclfanabalaaGreatDoor.Sx

/- Digits, by the reference. -/
namespace Go.Proofs.YtoifclfanabalaaGreatDoor.Sx
open Go
attribute [local irreducible] Calls

def digS : ByteArray := ⟨#[48, 49, 50, 51, 52, 53, 54, 55, 56, 57, 97, 98, 99, 100, 101, 102]⟩
theorem dig_at {k : Nat} (h : k < 16) : digS.extract k (k + 1) = mkS [dgs.getD k 0] := by
  have key : ∀ k : _root_.Fin 16, (digS.extract k.1 (k.1 + 1)).data.toList = [dgs.getD k.1 0] := by decide +kernel
  have := key ⟨k, h⟩
  simp only at this
  have e : digS.extract k (k + 1) = ⟨(digS.extract k (k + 1)).data.toList.toArray⟩ := by cases digS.extract k (k + 1); simp
  rw [e, this]
  rfl
theorem mkS_app (a b : List UInt8) : mkS a ++ mkS b = mkS (a ++ b) := by
  have h : (mkS a ++ mkS b).data.toList = (mkS (a ++ b)).data.toList := by simp [mkS]
  have e : ∀ s : ByteArray, s = ⟨s.data.toList.toArray⟩ := fun s => by cases s; simp
  rw [e (mkS a ++ mkS b), h, ← e]
theorem hexB_snoc2 (l : List UInt8) (x : UInt8) : hexB (l ++ [x]) = hexB l ++ ([dgs.getD (x.toNat / 16) 0] ++ [dgs.getD (x.toNat % 16) 0]) := by rw [hexB_snoc]; simp
theorem rhex_c (w : World) (A : Option Addr) (l : List UInt8) (c : Nat) (hr : Bs w A l) (hn : l.length ≤ 1000000) : Pu Tryz.prog n_ostiaryref01_Hex #[.slice A l.length c] w (.string (mkS (hexB l))) := by
  have g := good_ostiaryref01_Hex w (Un [])
  have hml := maxLen_eq
  refine con_of_sx (cx := cx_ostiaryref01_Hex w (Un [])) g b_ostiaryref01_Hex rfl rfl (β := Va.z) [.c (.v (.slice A l.length c))] 0 [] [oldF w] rfl rfl (old_sat rfl) ?_
  refine loop_rule 0 (fun k : Nat => [(3, .c (.v (.string (mkS (hexB (l.take k)))))), (6, .c (.v (.slice A l.length c))), (7, .c (.v (.int .i64 l.length))), (8, .c (.v (.int .i64 (k : Int))))]) (fun _ => []) (fun _ => [oldF w])
    (fun k => k ≤ l.length) (fun k => l.length - k) 0 (Nat.zero_le _) (Ent.same ⟨rfl, rfl, rfl, rfl, trivial⟩ rfl) g ?_
  intro k hk
  refine BIf.dec (fun hlt => ?_) (fun hge => ?_)
  · have hlt0 : (k : Int) < l.length := hlt
    have hkl : k < l.length := by omega
    obtain ⟨x, hx, hxm⟩ := at_lt hkl
    obtain ⟨ad, hA, _⟩ := hr.2 (by omega)
    have hsn : l.take (k + 1) = l.take k ++ [x] := by rw [List.take_add_one, hx]; rfl
    obtain ⟨m, hm⟩ : ∃ m, x.toNat = m := ⟨_, rfl⟩
    have hm256 : m < 256 := by rw [← hm]; exact x.toNat_lt
    have hhl : (hexB (l.take k)).length = 2 * k := by rw [hexB_len, List.length_take]; omega
    refine ⟨ad, k, hA, rfl, hkl, .int .u8 (m : Int), fun β w' hs => ?_, ?_⟩
    · have h := Rd.old hr (hs.get 0 rfl)
      rw [hA] at h
      rw [← hm]
      exact Rd.cell1 (u := byte x) h (by rw [List.getElem?_map, hx]; rfl)
    refine draw_rule g p_ostiaryref01_Hex_5 (by kernel_rfl) [] [oldF w] Sub.refl ?_
    have e1 : IntKind.u8.wrap ((m : Int).tdiv 16) = ((m / 16 : Nat) : Int) := by
      show IntKind.u8.wrap ((m : Int).tdiv ((16 : Nat) : Int)) = _
      rw [← Int.ofNat_tdiv, wrap_u8]
      omega
    have e2 : (m : Int).tmod 16 = ((m % 16 : Nat) : Int) := (Int.ofNat_tmod m 16).symm
    refine ⟨by decide, _, e1, by decide, _, e1, ((m / 16 + 1 : Nat) : Int), by rw [wrap_u8]; omega, ?_⟩
    refine ⟨m / 16 + 1, m / 16, rfl, rfl, by show m / 16 + 1 ≤ 16; omega, by omega, ?_⟩
    refine ⟨by decide, _, e2, by decide, _, e2, ((m % 16 + 1 : Nat) : Int), by rw [wrap_u8]; omega, ?_⟩
    refine ⟨m % 16 + 1, m % 16, rfl, rfl, by show m % 16 + 1 ≤ 16; omega, by omega, ?_⟩
    have z1 : (digS.extract (m / 16) (m / 16 + 1)).size ≤ 1 := by rw [ByteArray.size_extract]; omega
    have z2 : (digS.extract (m % 16) (m % 16 + 1)).size ≤ 1 := by rw [ByteArray.size_extract]; omega
    have z3 : (mkS (hexB (l.take k))).size ≤ 2000000 := by show (hexB (l.take k)).toArray.size ≤ _; rw [List.size_toArray]; omega
    have hf : mkS (hexB (l.take k)) ++ (digS.extract (m / 16) (m / 16 + 1) ++ digS.extract (m % 16) (m % 16 + 1)) = mkS (hexB (l.take (k + 1))) := by
      rw [dig_at (by omega), dig_at (by omega), mkS_app, mkS_app, hsn, hexB_snoc2, hm]
    refine ⟨by show (digS.extract (m / 16) (m / 16 + 1)).size + (digS.extract (m % 16) (m % 16 + 1)).size ≤ maxLen; omega, by show (mkS (hexB (l.take k))).size + (digS.extract (m / 16) (m / 16 + 1) ++ digS.extract (m % 16) (m % 16 + 1)).size ≤ maxLen; rw [ByteArray.size_append]; omega, ?_⟩
    refine ⟨((k + 1 : Nat) : Int), by rw [wrap_i64 (by omega) (by omega)]; rfl, ?_⟩
    refine ⟨k + 1, by omega, by omega, ?_⟩
    rw [← hf]
    exact Ent.same ⟨rfl, rfl, rfl, rfl, trivial⟩ rfl
  · have hge0 : ¬ (k : Int) < l.length := hge
    obtain rfl : k = l.length := by omega
    rw [List.take_length]
    intro β w' hs
    exact hs.fin [] ⟨rfl, rfl⟩
end Go.Proofs.YtoifclfanabalaaGreatDoor.Sx

/- A handle, in each of its forms, is found wherever it stands: plainly. -/
namespace Go.Proofs.YtoifclfanabalaaGreatDoor.Sx
open Go
attribute [local irreducible] Calls

theorem runsF_run : ∀ (E s r : List UInt8), (∀ c ∈ E, runC c = true) → runsF s (E ++ r) = runsF (s ++ E) r
  | [], s, r, _ => by simp
  | c :: E, s, r, h => by
    rw [List.cons_append, runsF_cons_in (h c List.mem_cons_self), runsF_run E (s ++ [c]) r (fun x hx => h x (List.mem_cons_of_mem _ hx)), List.append_assoc]
    rfl
theorem runsF_tail : ∀ (a s r : List UInt8) (c : UInt8), runC c = false → ∀ q ∈ runsF [] r, q ∈ runsF s (a ++ c :: r)
  | [], s, r, c, h, q, hq => by
    rw [List.nil_append, runsF_cons_out h]
    exact List.mem_append_right _ hq
  | x :: a, s, r, c, h, q, hq => by
    rw [List.cons_append]
    cases hx : runC x with
    | true => rw [runsF_cons_in hx]; exact runsF_tail a _ r c h q hq
    | false =>
      rw [runsF_cons_out hx]
      exact List.mem_append_right _ (runsF_tail a _ r c h q hq)
/-- A run between what are no letters. -/
theorem run_mem {a b E : List UInt8} {c d : UInt8} (hc : runC c = false) (hd : runC d = false) (hE : ∀ x ∈ E, runC x = true) (h0 : E ≠ []) : E ∈ runsA (a ++ c :: (E ++ d :: b)) := by
  unfold runsA
  refine runsF_tail a [] (E ++ d :: b) c hc E ?_
  rw [runsF_run E [] (d :: b) hE, List.nil_append, runsF_cons_out hd, if_neg h0]
  exact List.mem_append_left _ List.mem_cons_self
theorem letA_run (url : Bool) {n : Nat} (h : n < 64) : runC (letA url n) = true := by
  have key : ∀ u : Bool, ∀ n : _root_.Fin 64, runC (letA u n.1) = true := by decide +kernel
  exact key url ⟨n, h⟩
theorem val_letA (url : Bool) {n : Nat} (h : n < 64) : valA url (letA url n) = some n := by
  have key : ∀ u : Bool, ∀ n : _root_.Fin 64, valA u (letA u n.1) = some n.1 := by decide +kernel
  exact key url ⟨n, h⟩
theorem vals_letA (url : Bool) : ∀ (vs : List Nat), (∀ v ∈ vs, v < 64) → valsA url (vs.map (letA url)) = some vs
  | [], _ => rfl
  | v :: r, h => by
    have ih := vals_letA url r (fun x hx => h x (List.mem_cons_of_mem _ hx))
    rw [List.map_cons, valsA, val_letA url (h v List.mem_cons_self), ih]
theorem decS_b64 (url : Bool) (p : List UInt8) : decS url (b64L url p) = some p := by
  unfold decS b64L
  rw [vals_letA url _ (encG_lt p)]
  exact dec_enc p
theorem b64L_run (url : Bool) (p : List UInt8) : ∀ x ∈ b64L url p, runC x = true := by
  intro x hx
  obtain ⟨v, hv, rfl⟩ := List.mem_map.1 hx
  exact letA_run url (encG_lt p v hv)
theorem b64L_len (url : Bool) (p : List UInt8) : (b64L url p).length = (8 * p.length + 5) / 6 := by unfold b64L; rw [List.length_map, encG_len]
theorem run_ne61 {x : UInt8} (h : runC x = true) : x ≠ 61 := fun q => by rw [q] at h; exact absurd h (by decide)
theorem last_run {E : List UInt8} (hE : ∀ x ∈ E, runC x = true) : E.getLast? ≠ some 61 := fun q => run_ne61 (hE 61 (List.mem_of_getLast? q)) rfl
theorem read_std {h : List UInt8} (hl : h.length = 32) : h ∈ readL (b64L false h) := by
  have hbl : (b64L false h).length = 43 := by rw [b64L_len, hl]
  unfold readL
  refine List.mem_append_left _ ?_
  rw [hbl]
  have e1 : eqs ((4 - 43 % 4) % 4) = [61] := rfl
  rw [e1]
  have eu : unpad (b64L false h ++ [61]) = b64L false h := by
    unfold unpad
    rw [if_pos (by simp), List.dropLast_concat, if_neg (last_run (b64L_run false h))]
  unfold decP
  rw [if_neg (by rw [List.length_append, hbl]; decide), eu, if_neg (by rw [hbl]; decide), decS_b64]
  exact List.mem_singleton.2 rfl
theorem read_url {h : List UInt8} (hl : h.length = 32) : h ∈ readL (b64L true h) := by
  have hbl : (b64L true h).length = 43 := by rw [b64L_len, hl]
  unfold readL
  refine List.mem_append_right _ (List.mem_append_left _ ?_)
  unfold decU
  rw [if_neg (by rw [hbl]; decide), decS_b64]
  exact List.mem_singleton.2 rfl
theorem in_found {t s q : List UInt8} {n : Nat} (hs : s ∈ runsA t) (hq : q ∈ readL s) (hn : n ∈ numsL q) : n ∈ foundS t := by
  rw [mem_foundS]
  unfold foundL
  exact List.mem_append_right _ (List.mem_flatMap.2 ⟨s, hs, List.mem_flatMap.2 ⟨q, hq, hn⟩⟩)
theorem nums_handle {n : Nat} (hn : n < 4294967296) (h0 : 0 < n) : n ∈ numsL (Bx.handle n) := by
  unfold numsL
  rw [scan_handle hn h0]
  exact List.mem_singleton.2 rfl
theorem found_std {a b : List UInt8} {n : Nat} (hn : n < 4294967296) (h0 : 0 < n) : n ∈ foundS (a ++ (32 :: (encS false (Bx.handle n) ++ [32])) ++ b) := by
  have hl := Bx.handle_len n
  have hbl : (b64L false (Bx.handle n)).length = 43 := by rw [b64L_len, hl]
  have e : encS false (Bx.handle n) = b64L false (Bx.handle n) ++ [61] := by unfold encS; rw [hbl]; rfl
  have e2 : a ++ (32 :: (encS false (Bx.handle n) ++ [32])) ++ b = a ++ 32 :: (b64L false (Bx.handle n) ++ 61 :: (32 :: b)) := by rw [e]; simp
  rw [e2]
  exact in_found (run_mem (by decide) (by decide) (b64L_run false _) (fun q => by rw [q] at hbl; cases hbl)) (read_std hl) (nums_handle hn h0)
theorem found_url {a b : List UInt8} {n : Nat} (hn : n < 4294967296) (h0 : 0 < n) : n ∈ foundS (a ++ (46 :: (encS true (Bx.handle n) ++ [46])) ++ b) := by
  have hl := Bx.handle_len n
  have hbl : (b64L true (Bx.handle n)).length = 43 := by rw [b64L_len, hl]
  have e2 : a ++ (46 :: (encS true (Bx.handle n) ++ [46])) ++ b = a ++ 46 :: (b64L true (Bx.handle n) ++ 46 :: b) := by
    show a ++ (46 :: (b64L true (Bx.handle n) ++ [46])) ++ b = _
    simp
  rw [e2]
  exact in_found (run_mem (by decide) (by decide) (b64L_run true _) (fun q => by rw [q] at hbl; cases hbl)) (read_url hl) (nums_handle hn h0)
theorem unhex_hex2 (x : UInt8) : ∃ a b, hex2 x = [a, b] ∧ runC a = true ∧ runC b = true ∧ ∃ u v, digA a = some u ∧ digA b = some v ∧ u8n (u * 16 + v) = x := by
  have key : ∀ n : _root_.Fin 256, (match hex2 (UInt8.ofNat n.1) with | [a, b] => runC a && (runC b && (match digA a, digA b with | some u, some v => decide (u8n (u * 16 + v) = UInt8.ofNat n.1) | _, _ => false)) | _ => false) = true := by decide +kernel
  have h := key ⟨x.toNat, x.toNat_lt⟩
  simp only [UInt8.ofNat_toNat] at h
  refine ⟨dgs.getD (x.toNat / 16) 0, dgs.getD (x.toNat % 16) 0, rfl, ?_⟩
  unfold hex2 at h
  simp only [Bool.and_eq_true] at h
  obtain ⟨h1, h2, h3⟩ := h
  refine ⟨h1, h2, ?_⟩
  split at h3
  · rename_i u v hu hv
    exact ⟨u, v, hu, hv, of_decide_eq_true h3⟩
  · cases h3
theorem unhex_hex : ∀ (l : List UInt8), unhexA (hexB l) = some l ∧ ∀ x ∈ hexB l, runC x = true
  | [] => ⟨rfl, fun x h => by cases h⟩
  | x :: r => by
    obtain ⟨ih1, ih2⟩ := unhex_hex r
    obtain ⟨a, b, e, ra, rb, u, v, hu, hv, hx⟩ := unhex_hex2 x
    have e2 : hexB (x :: r) = a :: b :: hexB r := by
      show hex2 x ++ hexB r = _
      rw [e]
      rfl
    rw [e2]
    constructor
    · simp only [unhexA, hu, hv, ih1, hx]
    · intro y hy
      rcases List.mem_cons.1 hy with rfl | hy
      · exact ra
      · rcases List.mem_cons.1 hy with rfl | hy
        · exact rb
        · exact ih2 y hy
theorem found_hex {a b : List UInt8} {n : Nat} (hn : n < 4294967296) (h0 : 0 < n) : n ∈ foundS (a ++ (34 :: (hexB (Bx.handle n) ++ [34])) ++ b) := by
  have hl := Bx.handle_len n
  have hbl := hexB_len (Bx.handle n)
  obtain ⟨h1, h2⟩ := unhex_hex (Bx.handle n)
  have e2 : a ++ (34 :: (hexB (Bx.handle n) ++ [34])) ++ b = a ++ 34 :: (hexB (Bx.handle n) ++ 34 :: b) := by simp
  rw [e2]
  refine in_found (run_mem (by decide) (by decide) h2 (fun q => by rw [q, hl] at hbl; cases hbl)) ?_ (nums_handle hn h0)
  unfold readL
  refine List.mem_append_right _ (List.mem_append_right _ ?_)
  rw [h1]
  exact List.mem_singleton.2 rfl
end Go.Proofs.YtoifclfanabalaaGreatDoor.Sx

/- Runs, collected; the first of them. -/
namespace Go.Proofs.YtoifclfanabalaaGreatDoor.Sx
open Go
attribute [local irreducible] Calls

structure ColS where
  A : Option Addr
  c : Nat
  l : List ByteArray
theorem appendR_c (w : World) (bx : Nat) (A0 : Option Addr) (t : List UInt8) (c0 : Nat) (hl : t.length ≤ 1000000) (hc : t.length ≤ c0) (hLn : ((runsA t).map mkS).length ≤ 1000001) (hm : Mem w [bkF bx ty_sl_uint8 [.slice A0 t.length c0], bsF A0 t]) :
    Con Tryz.prog n_slices_AppendSeq_string_string #[.slice none 0 0, .func (.func n_knows_Runs_1) #[] #[.pointer (some ⟨bx, 0, none⟩)]] w [bkF bx ty_sl_uint8 [.slice A0 t.length c0]] fun v Fs => ∃ A c, v = .slice A ((runsA t).map mkS).length c ∧ Fs = [srowF A ((runsA t).map mkS) c] := by
  have g := good_slices_AppendSeq_string_string w (Un [bkF bx ty_sl_uint8 [.slice A0 t.length c0]])
  have hml := maxLen_eq
  obtain ⟨L, hLd⟩ : ∃ L, (runsA t).map mkS = L := ⟨_, rfl⟩
  rw [hLd] at hLn ⊢
  have hs0 : Sat (cx_slices_AppendSeq_string_string w (Un [bkF bx ty_sl_uint8 [.slice A0 t.length c0]])) Va.z 0 [] [bkF bx ty_sl_uint8 [.slice A0 t.length c0], bsF A0 t] w := hm.sat0 rfl (fun f hf ho k hk => by
    simp only [List.mem_cons, List.not_mem_nil, or_false] at hf
    rcases hf with rfl | rfl
    · exact ⟨_, List.mem_singleton.2 rfl, hk⟩
    · cases ho)
  refine con_of_sx (cx := cx_slices_AppendSeq_string_string w (Un [bkF bx ty_sl_uint8 [.slice A0 t.length c0]])) g b_slices_AppendSeq_string_string rfl rfl (β := Va.z) [.c (.v (.slice none 0 0)), .c (.v (.func (.func n_knows_Runs_1) #[] #[.pointer (some ⟨bx, 0, none⟩)]))] 0 [] _ rfl rfl hs0 ?_
  refine range_rule (α := ByteArray) (ι := ColS) (κ := Unit) g rfl (cv := [.pointer (some ⟨bx, 0, none⟩)]) rfl (by kernel_rfl) 1 (Nat.le_refl 1)
    (fun pre i => i.l = pre ∧ pre = L.take pre.length) (fun i => [⟨0, ty_sl_string, [.v (.slice i.A i.l.length i.c)]⟩]) (fun i => [srowF i.A i.l i.c]) (fun i => ⟨rfl, trivial⟩)
    (fun _ _ _ => False) (fun _ => []) (fun _ => []) (fun _ => trivial)
    [bkF bx ty_sl_uint8 [.slice A0 t.length c0]] [bsF A0 t] [] ⟨rfl, trivial⟩ (fun g h => by cases h) ⟨none, 0, []⟩ ⟨rfl, rfl⟩
    (fun β w hs => ⟨β, Agr.refl _ _, (hs.nilRow ty_string 1).perm [1, 2, 0]⟩) (insS L)
    (fun xs Fs' => xs = L ∧ Fs' = []) (fun _ Fs' => Fs' = [])
    (fun l w f0 R J Jx hJ0 hJo hRo hY hm => by
      have h := runs_it l w bx A0 t c0 f0 R J Jx hJ0 hJo hRo (by rw [hLd]; exact hY) hl hc hm
      rw [hLd] at h
      exact h) ?_ ?_ ?_
  · rintro ⟨A, c, l⟩ pre x args X W S' lb bs pn pn' hbs ⟨rfl, hpre⟩ ⟨rfl, rfl, hx⟩
    have hkl : l.length < L.length := (List.getElem?_eq_some_iff.1 hx).1
    refine ⟨_, rfl, ?_⟩
    intro b2
    refine ⟨2, l.length, (l ++ [x]).length, l.map Value.string, [Value.string x], (l ++ [x]).map Value.string, rfl, fun β w hs => row_rd (hs.get 0 rfl), fun u hu => by obtain rfl := List.mem_singleton.1 hu; rfl, by simp, by simp, by rw [List.length_append, hml]; show l.length + 1 ≤ _; omega, by rw [List.length_append]; show (l.length + 1) * 16 ≤ _; omega, ?_⟩
    intro A' c' h1 h2 h3
    have e1 : (l ++ [x]).length = l.length + 1 := by rw [List.length_append]; rfl
    refine ⟨⟨A', c', l ++ [x]⟩, ⟨rfl, ?_⟩, Ent.mk' trivial rfl (fun β w hs => hs.perm [2])⟩
    rw [e1, List.take_add_one, hx, ← hpre]
    rfl
  · rintro xs ⟨A, c, l⟩ Fs ⟨rfl, _⟩ ⟨hx, rfl⟩
    simp only at hx
    subst hx
    intro β w' hs
    exact (hs.keepB (List.nil_sublist _)).fin [0] ⟨A, c, rfl, rfl⟩
  · rintro e pre j Fs ⟨⟩
theorem collectR_c (w : World) (bx : Nat) (A0 : Option Addr) (t : List UInt8) (c0 : Nat) (hl : t.length ≤ 1000000) (hc : t.length ≤ c0) (hLn : ((runsA t).map mkS).length ≤ 1000001) (hm : Mem w [bkF bx ty_sl_uint8 [.slice A0 t.length c0], bsF A0 t]) :
    Con Tryz.prog n_slices_Collect_string #[.func (.func n_knows_Runs_1) #[] #[.pointer (some ⟨bx, 0, none⟩)]] w [bkF bx ty_sl_uint8 [.slice A0 t.length c0]] fun v Fs => ∃ A c, v = .slice A ((runsA t).map mkS).length c ∧ Fs = [srowF A ((runsA t).map mkS) c] := by
  have g := good_slices_Collect_string w (Un [bkF bx ty_sl_uint8 [.slice A0 t.length c0]])
  have hs0 : Sat (cx_slices_Collect_string w (Un [bkF bx ty_sl_uint8 [.slice A0 t.length c0]])) Va.z 0 [] [bkF bx ty_sl_uint8 [.slice A0 t.length c0], bsF A0 t] w := hm.sat0 rfl (fun f hf ho k hk => by
    simp only [List.mem_cons, List.not_mem_nil, or_false] at hf
    rcases hf with rfl | rfl
    · exact ⟨_, List.mem_singleton.2 rfl, hk⟩
    · cases ho)
  refine con_of_sx (cx := cx_slices_Collect_string w (Un [bkF bx ty_sl_uint8 [.slice A0 t.length c0]])) g b_slices_Collect_string rfl rfl (β := Va.z) [.c (.v (.func (.func n_knows_Runs_1) #[] #[.pointer (some ⟨bx, 0, none⟩)]))] 0 [] _ rfl rfl hs0 ?_
  refine call_con [0] (fun β w' hs => appendR_c w' bx A0 t c0 hl hc hLn (hs.mem.take (js := [0, 1]) rfl)) ?_
  rintro v Fs ⟨A, c, rfl, rfl⟩
  intro β w' hs
  exact hs.fin [0] ⟨A, c, rfl, rfl⟩
theorem first_c' (w : World) (A0 : Option Addr) (t : List UInt8) (c0 k : Nat) (hk : 0 < k) (hl : t.length ≤ 1000000) (hc : t.length ≤ c0) (hLn : ((runsA t).map mkS).length ≤ 1000001) (hm : Mem w [bsF A0 t]) :
    Con Tryz.prog n_ostiarylaw28_first #[.slice A0 t.length c0, .int .i64 (k : Int)] w [] fun v Fs => ∃ A c, v = .slice A (((runsA t).map mkS).take k).length c ∧ Fs = [srowF A (((runsA t).map mkS).take k) c] := by
  have g := good_ostiarylaw28_first w (Un [])
  have hml := maxLen_eq
  obtain ⟨L, hLd⟩ : ∃ L, (runsA t).map mkS = L := ⟨_, rfl⟩
  rw [hLd] at hLn ⊢
  have hs0 : Sat (cx_ostiarylaw28_first w (Un [])) Va.z 0 [] [bsF A0 t] w := hm.sat0 rfl (fun f hf ho k hk => by obtain rfl := List.mem_singleton.1 hf; cases ho)
  refine con_of_sx (cx := cx_ostiarylaw28_first w (Un [])) g b_ostiarylaw28_first rfl rfl (β := Va.z) [.c (.v (.slice A0 t.length c0)), .c (.v (.int .i64 (k : Int)))] 0 [] _ rfl rfl hs0 ?_
  refine call_con [] (fun β w' hs => Runs_c w' A0 t.length c0) ?_
  rintro v Fs ⟨bx, rfl, rfl⟩
  refine range_rule (α := ByteArray) (ι := ColS) (κ := ColS) g rfl (cv := [.pointer (some ⟨bx, 0, none⟩)]) rfl (by kernel_rfl) 2 (Nat.le_refl 2)
    (fun pre i => i.l = pre ∧ pre = L.take pre.length ∧ pre.length < k) (fun i => [⟨1, ty_sl_string, [.v (.slice i.A i.l.length i.c)]⟩, ⟨0, ty_int, [.v (.int .i64 (k : Int))]⟩]) (fun i => [srowF i.A i.l i.c]) (fun i => ⟨rfl, trivial⟩)
    (fun e pre i => e = .exit 0 ∧ i.l = L.take k) (fun i => [⟨1, ty_sl_string, [.v (.slice i.A i.l.length i.c)]⟩]) (fun i => [srowF i.A i.l i.c]) (fun i => ⟨rfl, trivial⟩)
    [bkF bx ty_sl_uint8 [.slice A0 t.length c0]] [bsF A0 t] [] ⟨rfl, trivial⟩ (fun g h => by cases h) ⟨none, 0, []⟩ ⟨rfl, rfl, hk⟩
    (fun β w hs => ⟨β, Agr.refl _ _, (hs.nilRow ty_string 1).perm [1, 2, 0]⟩) (insS L)
    (fun xs Fs' => xs = L ∧ Fs' = []) (fun _ Fs' => Fs' = [])
    (fun l w f0 R J Jx hJ0 hJo hRo hY hm => by
      have h := runs_it l w bx A0 t c0 f0 R J Jx hJ0 hJo hRo (by rw [hLd]; exact hY) hl hc hm
      rw [hLd] at h
      exact h) ?_ ?_ ?_
  · rintro ⟨A, c, l⟩ pre x args X W S' lb bs pn pn' hbs ⟨rfl, hpre, hlk⟩ ⟨rfl, rfl, hx⟩
    have hlk : l.length < k := hlk
    have hkl : l.length < L.length := (List.getElem?_eq_some_iff.1 hx).1
    refine ⟨_, rfl, ?_⟩
    intro b2
    obtain ⟨l2, hl2⟩ : ∃ l2, l2 = l ++ [x] := ⟨_, rfl⟩
    have e1 : l.length + 1 = l2.length := by rw [hl2, List.length_append]; rfl
    have hl2t : l2 = L.take l2.length := by rw [← e1, List.take_add_one, hx, ← hpre, hl2]; rfl
    refine ⟨2, l.length, l2.length, strs l, strs [x], strs l2, rfl, fun β w hs => row_rd (hs.get 0 rfl), strs_one _, e1, by rw [hl2]; simp [strs], by rw [hml]; omega, by show l2.length * 16 ≤ _; omega, ?_⟩
    intro A' c' h1 h2 h3
    refine BIf.dec (fun hq => ?_) (fun hq => ?_)
    · have hq0 : (l2.length : Int) = (k : Int) := hq
      refine ⟨⟨A', c', l2⟩, ⟨rfl, by show l2 = L.take k; rw [← Int.ofNat_inj.1 hq0]; exact hl2t⟩, Ent.mk' trivial rfl (fun β w hs => ?_)⟩
      have h3 : Sat _ _ 2 [⟨1, ty_sl_string, [.v (.slice A' l2.length c')]⟩] _ _ := hs.keepB (List.Sublist.cons_cons _ (List.nil_sublist _))
      exact h3.perm [2]
    · have hq0 : ¬ (l2.length : Int) = (k : Int) := hq
      refine ⟨⟨A', c', l2⟩, ⟨hl2, by rw [← hl2]; exact hl2t, by rw [← hl2]; omega⟩, Ent.mk' trivial rfl (fun β w hs => hs.perm [2])⟩
  · rintro xs ⟨A, c, l⟩ Fs ⟨rfl, hpre, hlk⟩ ⟨hx, rfl⟩
    simp only at hx hlk
    have e : L.take k = l := by rw [← hx]; exact List.take_of_length_le (by omega)
    rw [e]
    intro β w' hs
    exact (hs.keepB (List.nil_sublist _)).fin [0] ⟨A, c, rfl, rfl⟩
  · rintro e pre ⟨A, c, l⟩ Fs ⟨rfl, hj⟩ rfl
    simp only at hj
    rw [← hj]
    intro β w' hs
    exact (hs.keepB (List.nil_sublist _)).fin [0] ⟨A, c, rfl, rfl⟩
end Go.Proofs.YtoifclfanabalaaGreatDoor.Sx

/- slices.Equal of numbers. -/
namespace Go.Proofs.YtoifclfanabalaaGreatDoor.Sx
open Go
attribute [local irreducible] Calls

theorem equalJ_c (w : World) (A B : Option Addr) (xs ys : List Int) (c d : Nat) (hx : Rd 1 A xs.length (xs.map (Value.int .i64)) w) (hy : Rd 1 B ys.length (ys.map (Value.int .i64)) w) (hn : xs.length ≤ 1000000) :
    Pu Tryz.prog n_slices_Equal_int_int #[.slice A xs.length c, .slice B ys.length d] w (.bool (decide (xs = ys))) := by
  have g := good_slices_Equal_int_int w (Un [])
  refine con_of_sx (cx := cx_slices_Equal_int_int w (Un [])) g b_slices_Equal_int_int rfl rfl (β := Va.z) [.c (.v (.slice A xs.length c)), .c (.v (.slice B ys.length d))] 0 [] [oldF w] rfl rfl (old_sat rfl) ?_
  refine BIf.not (BIf.dec (fun he => ?_) (fun he => ?_))
  · have hel : xs.length = ys.length := by have h : (xs.length : Int) = ys.length := he; omega
    refine loop_rule (ι := Nat) 0 (fun i => [(0, .c (.v (.slice A xs.length c))), (1, .c (.v (.slice B ys.length d))), (12, .c (.v (.int .i64 (xs.length : Int)))), (13, .c (.v (.int .i64 (i : Int))))]) (fun _ => []) (fun _ => [oldF w])
      (fun i => i ≤ xs.length ∧ xs.take i = ys.take i) (fun i => xs.length - i) 0 ⟨Nat.zero_le _, rfl⟩ (Ent.same ⟨rfl, rfl, rfl, rfl, trivial⟩ rfl) g ?_
    rintro i ⟨hi, hpre⟩
    refine BIf.dec (fun hlt => ?_) (fun hge => ?_)
    · have hlt0 : (i : Int) < xs.length := hlt
      obtain ⟨x, hxi, _⟩ := at_lt (show i < xs.length by omega)
      obtain ⟨y, hyi, _⟩ := at_lt (show i < ys.length by omega)
      obtain ⟨ad, hA, _⟩ := hx.2 (by omega)
      obtain ⟨bd, hB, _⟩ := hy.2 (by omega)
      refine draw_rule g p_slices_Equal_int_int_6 (by kernel_rfl) [] [oldF w] (subPerm [0]) ?_
      refine ⟨_, i, hA, rfl, by omega, ?_⟩
      refine ⟨.int .i64 x, fun β w' hs => Rd.cell1 (by have h := Rd.old hx (hs.get 0 rfl); rw [hA] at h; exact h) (by rw [List.getElem?_map, hxi]; rfl), ?_⟩
      refine ⟨_, i, hB, rfl, by omega, ?_⟩
      refine ⟨.int .i64 y, fun β w' hs => Rd.cell1 (by have h := Rd.old hy (hs.get 0 rfl); rw [hB] at h; exact h) (by rw [List.getElem?_map, hyi]; rfl), ?_⟩
      refine BIf.not (BIf.dec (fun hxy => ?_) (fun hxy => ?_))
      · have hxy0 : x = y := hxy
        refine ⟨((i + 1 : Nat) : Int), by rw [wrap_i64 (by omega) (by omega)]; rfl, ?_⟩
        exact ⟨i + 1, ⟨by omega, by rw [List.take_add_one, List.take_add_one, hxi, hyi, hpre, hxy0]⟩, by omega, Ent.same ⟨rfl, rfl, rfl, rfl, trivial⟩ rfl⟩
      · have hxy0 : ¬ x = y := hxy
        intro β w' hs
        exact hs.fin [] ⟨by rw [decide_eq_false (fun h => hxy0 (by rw [h, hyi] at hxi; exact (Option.some.inj hxi).symm))]; rfl, rfl⟩
    · have hge0 : ¬ (i : Int) < xs.length := hge
      have hxy : xs = ys := by rw [List.take_of_length_le (by omega), List.take_of_length_le (by omega)] at hpre; exact hpre
      intro β w' hs
      exact hs.fin [] ⟨by rw [decide_eq_true hxy]; rfl, rfl⟩
  · have hne : ¬ (xs.length : Int) = ys.length := he
    intro β w' hs
    exact hs.fin [] ⟨by rw [decide_eq_false (fun h => hne (by rw [h]))]; rfl, rfl⟩
end Go.Proofs.YtoifclfanabalaaGreatDoor.Sx

/- slices.Equal of texts. -/
namespace Go.Proofs.YtoifclfanabalaaGreatDoor.Sx
open Go
attribute [local irreducible] Calls

theorem equalS_c (w : World) (A B : Option Addr) (xs ys : List ByteArray) (c d : Nat) (hx : Rd 1 A xs.length (xs.map Value.string) w) (hy : Rd 1 B ys.length (ys.map Value.string) w) (hn : xs.length ≤ 1000000) :
    Pu Tryz.prog n_slices_Equal_string_string #[.slice A xs.length c, .slice B ys.length d] w (.bool (decide (xs = ys))) := by
  have g := good_slices_Equal_string_string w (Un [])
  refine con_of_sx (cx := cx_slices_Equal_string_string w (Un [])) g b_slices_Equal_string_string rfl rfl (β := Va.z) [.c (.v (.slice A xs.length c)), .c (.v (.slice B ys.length d))] 0 [] [oldF w] rfl rfl (old_sat rfl) ?_
  refine BIf.not (BIf.dec (fun he => ?_) (fun he => ?_))
  · have hel : xs.length = ys.length := by have h : (xs.length : Int) = ys.length := he; omega
    refine loop_rule (ι := Nat) 0 (fun i => [(0, .c (.v (.slice A xs.length c))), (1, .c (.v (.slice B ys.length d))), (12, .c (.v (.int .i64 (xs.length : Int)))), (13, .c (.v (.int .i64 (i : Int))))]) (fun _ => []) (fun _ => [oldF w])
      (fun i => i ≤ xs.length ∧ xs.take i = ys.take i) (fun i => xs.length - i) 0 ⟨Nat.zero_le _, rfl⟩ (Ent.same ⟨rfl, rfl, rfl, rfl, trivial⟩ rfl) g ?_
    rintro i ⟨hi, hpre⟩
    refine BIf.dec (fun hlt => ?_) (fun hge => ?_)
    · have hlt0 : (i : Int) < xs.length := hlt
      obtain ⟨x, hxi, _⟩ := at_lt (show i < xs.length by omega)
      obtain ⟨y, hyi, _⟩ := at_lt (show i < ys.length by omega)
      obtain ⟨ad, hA, _⟩ := hx.2 (by omega)
      obtain ⟨bd, hB, _⟩ := hy.2 (by omega)
      refine draw_rule g p_slices_Equal_string_string_6 (by kernel_rfl) [] [oldF w] (subPerm [0]) ?_
      refine ⟨_, i, hA, rfl, by omega, ?_⟩
      refine ⟨.string x, fun β w' hs => Rd.cell1 (by have h := Rd.old hx (hs.get 0 rfl); rw [hA] at h; exact h) (by rw [List.getElem?_map, hxi]; rfl), ?_⟩
      refine ⟨_, i, hB, rfl, by omega, ?_⟩
      refine ⟨.string y, fun β w' hs => Rd.cell1 (by have h := Rd.old hy (hs.get 0 rfl); rw [hB] at h; exact h) (by rw [List.getElem?_map, hyi]; rfl), ?_⟩
      refine BIf.not (BIf.dec (fun hxy => ?_) (fun hxy => ?_))
      · have hxy0 : x = y := hxy
        refine ⟨((i + 1 : Nat) : Int), by rw [wrap_i64 (by omega) (by omega)]; rfl, ?_⟩
        exact ⟨i + 1, ⟨by omega, by rw [List.take_add_one, List.take_add_one, hxi, hyi, hpre, hxy0]⟩, by omega, Ent.same ⟨rfl, rfl, rfl, rfl, trivial⟩ rfl⟩
      · have hxy0 : ¬ x = y := hxy
        intro β w' hs
        exact hs.fin [] ⟨by rw [decide_eq_false (fun h => hxy0 (by rw [h, hyi] at hxi; exact (Option.some.inj hxi).symm))]; rfl, rfl⟩
    · have hge0 : ¬ (i : Int) < xs.length := hge
      have hxy : xs = ys := by rw [List.take_of_length_le (by omega), List.take_of_length_le (by omega)] at hpre; exact hpre
      intro β w' hs
      exact hs.fin [] ⟨by rw [decide_eq_true hxy]; rfl, rfl⟩
  · have hne : ¬ (xs.length : Int) = ys.length := he
    intro β w' hs
    exact hs.fin [] ⟨by rw [decide_eq_false (fun h => hne (by rw [h]))]; rfl, rfl⟩
end Go.Proofs.YtoifclfanabalaaGreatDoor.Sx

/- A box's calls: what is told has its length. -/
namespace Go.Proofs.YtoifclfanabalaaGreatDoor.Sx
open Go
attribute [local irreducible] Calls

/-- What a box tells, and the box behind it. -/
def outL (F : Bx.Box → Lay → Fact) (r : List UInt8 × Bx.Box) (v : Value) (Fs : List Fact) : Prop :=
  ∃ A c y', v = .slice A r.1.length c ∧ r.1.length ≤ c ∧ c ≤ maxLen ∧ y'.ts.map (·.1) = r.2.L ∧ Fs = [browF ty_uint8 A r.1 c, F r.2 y']
theorem boxOut_L {b : Nat} {r : List UInt8 × Bx.Box} {v : Value} {Fs : List Fact} (h : r.1.length = 32) (k : boxOut b r v Fs) : outL (bxF b) r v Fs := by
  obtain ⟨A, c, y', rfl, h1, h2, h3, rfl⟩ := k
  exact ⟨A, c, y', by rw [h], by rw [h]; exact h1, h2, h3, rfl⟩
theorem one_part (A : Option Addr) (l : List UInt8) (c : Nat) : partsT [(A, l, c)] = l := by simp [partsT]
theorem hashL_c (w : World) (b : Nat) (B : Bx.Box) (y : Lay) (b0 : Nat) (A : Option Addr) (l : List UInt8) (c : Nat) (hts : y.ts.map (·.1) = B.L) (hi : BInv B) (hL : B.L.length < 4096) (hn : l.length ≤ 1000000) (hm : Mem w [bxF b B y, partF (some ⟨b0, 0, none⟩) [(A, l, c)], oddF 2, firstF 0]) :
    Con Tryz.prog n_box_Box_Hash #[ptrB b, .slice (some ⟨b0, 0, none⟩) 1 1] w [bxF b B y] (outL (bxF b) (hashB B l)) := by
  have k := hashP_c w b B y b0 [(A, l, c)] 1 hts (by omega) (by simp) (Nat.le_refl 1) (by show 1 ≤ 1000; decide) (by rw [one_part]; exact hn) hm
  rw [one_part] at k
  exact k.mono fun v Fs h => boxOut_L (hash_good hi hL hn).2.1 h
theorem macL_c (w : World) (b : Nat) (B : Bx.Box) (y : Lay) (K : Option Addr) (key : List UInt8) (cK : Nat) (b0 : Nat) (A : Option Addr) (l : List UInt8) (c : Nat) (hts : y.ts.map (·.1) = B.L) (hi : BInv B) (hL : B.L.length < 4096) (hk : key.length ≤ 1000000) (hn : l.length ≤ 1000000) (hm : Mem w [bxF b B y, partF (some ⟨b0, 0, none⟩) [(A, l, c)], bsF K key, oddF 2, firstF 0]) :
    Con Tryz.prog n_box_Box_Mac #[ptrB b, .slice K key.length cK, .slice (some ⟨b0, 0, none⟩) 1 1] w [bxF b B y] (outL (bxF b) (macB B key l)) := by
  have k := macP_c w b B y K key cK b0 [(A, l, c)] 1 hts (by omega) hk (by simp) (Nat.le_refl 1) (by show 1 ≤ 1000; decide) (by rw [one_part]; exact hn) hm
  rw [one_part] at k
  exact k.mono fun v Fs h => boxOut_L (mac_good hi hL hk hn).2.1 h
end Go.Proofs.YtoifclfanabalaaGreatDoor.Sx

/- The document's example of what can be known. -/
namespace Go.Proofs.YtoifclfanabalaaGreatDoor.Sx
open Go
attribute [local irreducible] Calls

def tK : Bx.Term := macT [107] [97]
def BK : Bx.Box := ⟨true, false, [tA, tK]⟩
theorem hash_a : hashB B0 [97] = (Bx.handle 1, B1) := tag_A
theorem mac_ka : macB B1 [107] [97] = (Bx.handle 2, BK) := tag_new (B := B1) (t := tK) (place_not (by simp [B1, tA, tK, hashT, macT])) (by decide)
theorem inv0 : BInv B0 := ⟨fun t h => (by cases h), List.nodup_nil, fun t h => (by cases h), fun _ => rfl, by decide⟩
theorem inv1 : BInv B1 := by have h := (hash_good inv0 (t := [97]) (by decide) (by decide)).1.inv; rw [hash_a] at h; exact h
theorem invK : BInv BK := by have h := (mac_good inv1 (k := [107]) (t := [97]) (by decide) (by decide) (by decide)).1.inv; rw [mac_ka] at h; exact h
def ndsK : List Nd := [⟨[], false, false⟩, ⟨[], true, false⟩, ⟨[], false, false⟩]
theorem nds_k : ndL [[107]] BK.L = ndsK := by
  have e1 : ndT [[107]] tA = ⟨[], true, false⟩ := by
    unfold ndT
    rw [if_neg (by decide), show tA.key = [] from rfl, show tA.text = [97] from rfl, foundS_short (by decide), foundS_short (by decide), between_short (by decide), between_short (by decide)]
    have h1 : plainB [[107]] [] = true := by decide +kernel
    have h2 : plainB [[107]] [97] = true := by decide +kernel
    rw [h1, h2]
    rfl
  have e2 : ndT [[107]] tK = ⟨[], false, false⟩ := by
    unfold ndT
    rw [if_neg (by decide), show tK.key = [107] from rfl, show tK.text = [97] from rfl, foundS_short (by decide), foundS_short (by decide), between_short (by decide)]
    have h1 : plainB [[107]] [107] = false := by decide +kernel
    rw [h1]
    rfl
  show ⟨[], false, false⟩ :: [ndT [[107]] tA, ndT [[107]] tK] = _
  rw [e1, e2]
  rfl
theorem least_1 {I R : List Bool} (h : Least ndsK I R) : markB R (1 : Int) = true := by
  have h1 := (h.1.2 1 ⟨[], true, false⟩ rfl (by decide)).1 rfl (by unfold haveB; rfl)
  exact h1
theorem least_2 {R : List Bool} (h : Least ndsK (marksOf 3 []) R) : markB R (2 : Int) = false := by
  have hC : Closed ndsK [false, true, false] := by
    refine ⟨rfl, fun n d hd h0 => ?_⟩
    match n, hd, h0 with
    | 0, _, h0 => exact absurd h0 (by decide)
    | 1, hd, _ => cases hd; exact ⟨fun _ _ => rfl, fun q => (by cases q)⟩
    | 2, hd, _ => cases hd; exact ⟨fun q => (by cases q), fun q => (by cases q)⟩
    | n + 3, hd, _ => cases hd
  have hle : Le (marksOf 3 []) [false, true, false] := ⟨rfl, fun n q => by have := (marksOf_iff.1 q).2; cases this⟩
  have hr := (h.2.2 _ hC hle).2 2
  cases hm : markB R (2 : Int) with
  | false => rfl
  | true => exact absurd (hr hm) (by unfold IsM; decide)
theorem least_3 {s : List Nat} {R : List Bool} (h : Least ndsK (marksOf 3 s) R) (hs : 2 ∈ s) : markB R (2 : Int) = true := h.2.1.2 2 (marksOf_iff.2 ⟨by decide, hs⟩)
theorem tsz_K : ∀ t ∈ BK.L, t.key.length ≤ 70000 ∧ t.text.length ≤ 70000 := by
  intro t ht
  have : t = tA ∨ t = tK := by simpa [BK] using ht
  rcases this with rfl | rfl <;> exact ⟨by decide, by decide⟩
theorem awake28_c (w : World) (hm : Mem w [mlF, oddF 2, firstF 0]) : Con Tryz.prog n_ostiarylaw28_awake #[] w [] fun v Fs => v = .bool true ∧ Fs = [] := by
  have g := good_ostiarylaw28_awake w (Un [])
  have hs0 : Sat (cx_ostiarylaw28_awake w (Un [])) Va.z 0 [] [mlF, oddF 2, firstF 0] w := hm.sat0 rfl (fun f hf ho k hk => by
    simp only [List.mem_cons, List.not_mem_nil, or_false] at hf
    rcases hf with rfl | rfl | rfl <;> cases ho)
  refine con_of_sx (cx := cx_ostiarylaw28_awake w (Un [])) g b_ostiarylaw28_awake rfl rfl (β := Va.z) [] 0 [] _ rfl rfl hs0 ?_
  refine call_con [] (fun β w' hs => newX_c w' true) ?_
  rintro v Fs ⟨b, y0, rfl, hy0, rfl⟩
  intro b1
  refine ⟨0, _, rfl, ?_⟩
  intro b2
  refine call_con [2] (R := outL (bxF b) (hashB B0 [97])) (fun β w' hs => by
    have h2 := (hs.rowRd 0 rfl).part1 (l := [97]) [0, 1] rfl
    exact hashL_c w' b B0 y0 b2 (some ⟨b1, 0, none⟩) [97] 1 (by rw [hy0]; rfl) inv0 (by decide) (by decide) (h2.mem.take (js := [3, 0, 5, 6]) rfl)) ?_
  rw [hash_a]
  rintro v Fs ⟨A1, c1, y1, rfl, p1, p2, hy1, rfl⟩
  intro b3
  refine ⟨0, _, rfl, ?_⟩
  intro b4
  refine ⟨0, _, rfl, ?_⟩
  intro b5
  refine call_con [4] (R := outL (bxF b) (macB B1 [107] [97])) (fun β w' hs => by
    have h2 := (hs.rowRd 0 rfl).part1 (l := [97]) [0, 1] rfl
    exact macL_c w' b B1 y1 (some ⟨b3, 0, none⟩) [107] 1 b5 (some ⟨b4, 0, none⟩) [97] 1 hy1 inv1 (by decide) (by decide) (by decide) (h2.mem.take (js := [5, 0, 3, 9, 10]) rfl)) ?_
  rw [mac_ka]
  rintro v Fs ⟨A2, c2, y2, rfl, p3, p4, hy2, rfl⟩
  intro b6
  refine ⟨0, _, rfl, ?_⟩
  intro b7
  refine call_con [3] (R := fun v Fs => ∃ x : Md, v = .tuple #[.pointer (some ⟨x.b, 0, none⟩), .int .i64 0] ∧ x.bx = b ∧ x.ss = [[107]] ∧ x.seen = [] ∧ Fs = mdFs x ++ [bxF b BK y2]) (fun β w' hs => by
    have h2 := (hs.rowRd 0 rfl).part1 (l := [107]) [0, 1] rfl
    exact knowsNew_c w' b BK y2 (some ⟨b7, 0, none⟩) [(some ⟨b6, 0, none⟩, [107], 1)] 1 rfl (by show 1 ≤ 1000; decide) (fun q hq => by obtain rfl := List.mem_singleton.1 hq; exact ⟨by show 1 ≤ 1000; decide, Nat.le_refl 1⟩) (h2.mem.take (js := [4, 0]) rfl)) ?_
  rintro v Fs ⟨x, rfl, rfl, hss, hsn, rfl⟩
  have hpl : x.ps.length ≤ 1000000 := by
    have := congrArg List.length hss
    unfold Md.ss at this
    rw [List.length_map] at this
    rw [this]
    decide
  have hsl : ∀ s ∈ x.ss, s.length ≤ 1000000 := fun s h => by rw [hss] at h; obtain rfl := List.mem_singleton.1 h; decide
  have hnd : ndL x.ss BK.L = ndsK := by rw [hss]; exact nds_k
  refine call_con [0, 1, 2, 3] (R := fun v Fs => v = .bool true ∧ Fs = mdFs x ++ [bxF x.bx BK y2]) (hown := ⟨rfl, rfl, rfl, rfl, trivial⟩) (fun β w' hs => (made_c w' x BK y2 1 hy2 (by decide) invK.sz tsz_K hsl hpl (hs.mem.take (js := [0, 1, 2, 3, 13]) rfl)).mono fun v Fs ⟨R, hR, e1, e2⟩ => ⟨by rw [hnd] at hR; rw [e1, least_1 hR], e2⟩) ?_
  rintro v Fs ⟨rfl, rfl⟩
  refine call_con [0, 1, 2, 3] (R := fun v Fs => v = .bool false ∧ Fs = mdFs x ++ [bxF x.bx BK y2]) (hown := ⟨rfl, rfl, rfl, rfl, trivial⟩) (fun β w' hs => (made_c w' x BK y2 2 hy2 (by decide) invK.sz tsz_K hsl hpl (hs.mem.take (js := [0, 1, 2, 3, 13]) rfl)).mono fun v Fs ⟨R, hR, e1, e2⟩ => ⟨by rw [hnd, hsn] at hR; rw [e1, least_2 hR], e2⟩) ?_
  rintro v Fs ⟨rfl, rfl⟩
  refine call_con [] (fun β w' hs => handle_c w' 2) ?_
  rintro v Fs ⟨A3, c3, rfl, p5, p6, rfl⟩
  refine call_con [1, 2, 3] (R := fun v Fs => v = .tuple #[] ∧ Fs = mdFs { x with seen := (foundS (Bx.handle 2)).foldl setPut x.seen }) (hown := ⟨rfl, rfl, rfl, trivial⟩) (fun β w' hs => by
    have h2 := hs.rdRow 0 rfl
    have h3 := See_c w' x A3 (Bx.handle 2) c3 (by rw [Bx.handle_len]; decide) (by rw [Bx.handle_len]; exact p5) (h2.mem.take (js := [1, 2, 3, 0]) rfl)
    rw [Bx.handle_len] at h3
    exact h3) ?_
  rintro v Fs ⟨rfl, rfl⟩
  obtain ⟨x2, hx2⟩ : ∃ x2 : Md, x2 = { x with seen := (foundS (Bx.handle 2)).foldl setPut x.seen } := ⟨_, rfl⟩
  have e1 : x2.b = x.b := by rw [hx2]
  have e2 : x2.bx = x.bx := by rw [hx2]
  have e3 : x2.ss = x.ss := by rw [hx2]; rfl
  have e4 : x2.ps = x.ps := by rw [hx2]
  have e5 : 2 ∈ x2.seen := by rw [hx2]; exact mem_setPuts.2 (.inr (found_handle (by decide) (by decide)))
  rw [← hx2]
  clear hx2
  rw [← e2, ← e1]
  refine call_con [0, 1, 2, 4] (R := fun v Fs => v = .bool true ∧ Fs = mdFs x2 ++ [bxF x2.bx BK y2]) (hown := ⟨rfl, rfl, rfl, rfl, trivial⟩) (fun β w' hs => (made_c w' x2 BK y2 2 hy2 (by decide) invK.sz tsz_K (by rw [e3]; exact hsl) (by rw [e4]; exact hpl) (hs.mem.take (js := [0, 1, 2, 4, 14]) rfl)).mono fun v Fs ⟨R, hR, e1, e2⟩ => ⟨by rw [e3, hnd] at hR; rw [e1, least_3 hR e5], e2⟩) ?_
  rintro v Fs ⟨rfl, rfl⟩
  intro β w' hs
  exact hs.fin [] ⟨rfl, rfl⟩
end Go.Proofs.YtoifclfanabalaaGreatDoor.Sx

/- KnowsFinds. -/
namespace Go.Proofs.YtoifclfanabalaaGreatDoor.Sx
open Go
attribute [local irreducible] Calls

structure KfJ where
  A : Option Addr
  l : List UInt8
  c : Nat
def KfJ.Ok (j : KfJ) (n f : Nat) : Prop := j.l.length ≤ 100 ∧ (0 < n → 0 < f % 4 → ∀ a b, n ∈ foundS (a ++ j.l ++ b))
theorem knowsFinds_c (w : World) (A1 A2 : Option Addr) (p1 p2 : List UInt8) (c1 c2 n f st : Nat) (h1 : p1.length ≤ c1) (h2 : p2.length ≤ c2) (hn : n < 4294967296) (hf : f < 256) (hst : st < 256) (hm : Mem w [bsF A1 p1, bsF A2 p2, mlF, oddF 2, firstF 0]) :
    Con Tryz.prog n_ostiarylaw28_KnowsFinds #[.slice A1 p1.length c1, .slice A2 p2.length c2, .int .u32 (n : Int), .int .u8 (f : Int), .int .u8 (st : Int)] w [] fun v Fs => v = .bool true ∧ Fs = [] := by
  have g := good_ostiarylaw28_KnowsFinds w (Un [])
  have hml := maxLen_eq
  have hs0 : Sat (cx_ostiarylaw28_KnowsFinds w (Un [])) Va.z 0 [] [bsF A1 p1, bsF A2 p2, mlF, oddF 2, firstF 0] w := hm.sat0 rfl (fun f hf ho k hk => by
    simp only [List.mem_cons, List.not_mem_nil, or_false] at hf
    rcases hf with rfl | rfl | rfl | rfl | rfl <;> cases ho)
  refine con_of_tri (cx := cx_ostiarylaw28_KnowsFinds w (Un [])) g b_ostiarylaw28_KnowsFinds rfl rfl (β := Va.z) [.c (.v (.slice A1 p1.length c1)), .c (.v (.slice A2 p2.length c2)), .c (.v (.int .u32 (n : Int))), .c (.v (.int .u8 (f : Int))), .c (.v (.int .u8 (st : Int)))] 0 [] _ rfl rfl hs0 ?_
  refine tri_seq g ?_
  refine tri_seq g ?_
  refine call_con [] (fun β w' hs => awake28_c w' (hs.mem.take (js := [2, 3, 4]) rfl)) ?_
  rintro v Fs ⟨rfl, rfl⟩
  refine tri_seq g ?_
  refine call_con [] (fun β w' hs => cutC w' A1 p1 c1 60 (hs.get 0 rfl) h1 (by decide)) ?_
  rintro v Fs ⟨B1, d1, rfl, q1, _, rfl⟩
  refine call_con [] (fun β w' hs => cutC w' A2 p2 c2 60 (hs.get 2 rfl) h2 (by decide)) ?_
  rintro v Fs ⟨B2, d2, rfl, q2, _, rfl⟩
  have hf1 : (p1.take 60).length ≤ 60 := by rw [List.length_take]; omega
  have hf2 : (p2.take 60).length ≤ 60 := by rw [List.length_take]; omega
  generalize p1.take 60 = x1 at q1 hf1 ⊢
  generalize p2.take 60 = x2 at q2 hf2 ⊢
  refine tri_seq g ?_
  refine ⟨_, wrap_i64 (by omega) (by omega), ?_⟩
  refine call_con [] (fun β w' hs => rhandle_c w' n hn) ?_
  rintro v Fs ⟨B3, d3, rfl, q3, _, rfl⟩
  refine tri_seq g ?_
  refine tri_seq g ?_
  apply tri_share (cx := cx_ostiarylaw28_KnowsFinds w (Un [])) (ι := KfJ) (fun j => j.Ok n f) 0 (fun j => [(0, .c (.v (.slice B1 x1.length d1))), (1, .c (.v (.slice B2 x2.length d2))), (2, .c (.v (.int .u32 (n : Int)))), (3, .c (.v (.int .u8 (f : Int)))), (4, .c (.v (.int .u8 (st : Int)))), (12, .c (.v (.slice j.A j.l.length j.c)))]) (fun _ => []) (fun j => [bsF j.A j.l, browF ty_uint8 B1 x1 d1, browF ty_uint8 B2 x2 d2])
  · intro hkey
    have hel : ∀ url, (encS url (Bx.handle n)).length ≤ 50 := fun url => by
      have hb := b64L_len url (Bx.handle n)
      rw [Bx.handle_len] at hb
      unfold encS
      cases url with
      | true => show (b64L true (Bx.handle n)).length ≤ 50; omega
      | false => show (b64L false (Bx.handle n) ++ eqs _).length ≤ 50; rw [List.length_append, eqs_len]; omega
    have hhl : (hexB (Bx.handle n)).length = 64 := by rw [hexB_len, Bx.handle_len]
    refine ⟨by first | decide | omega, ?_⟩
    refine ⟨((f % 4 : Nat) : Int), Int.ofNat_tmod _ _, ?_⟩
    refine BIf.dec (fun e0 => ?_) (fun e0 => ?_)
    · have e00 : ((f % 4 : Nat) : Int) = 0 := e0
      refine tri_join (ι := KfJ) (fun j => j.Ok n f) 0 (fun j => [(0, .c (.v (.slice B1 x1.length d1))), (1, .c (.v (.slice B2 x2.length d2))), (2, .c (.v (.int .u32 (n : Int)))), (3, .c (.v (.int .u8 (f : Int)))), (4, .c (.v (.int .u8 (st : Int)))), (12, .c (.v (.slice j.A j.l.length j.c)))]) (fun _ => []) (fun j => [bsF j.A j.l, browF ty_uint8 B1 x1 d1, browF ty_uint8 B2 x2 d2]) hkey (EntX.of ⟨B3, Bx.handle n, d3⟩ ⟨by rw [Bx.handle_len]; decide, fun _ q => absurd q (by omega)⟩ (Ent.mk' ⟨rfl, rfl, rfl, rfl, rfl, by rw [Bx.handle_len]; rfl, trivial⟩ rfl (fun β w' hs => (hs.rdRow 0 rfl).perm [0, 2, 1])))
    have e00 : ¬ ((f % 4 : Nat) : Int) = 0 := e0
    refine BIf.dec (fun e1 => ?_) (fun e1 => ?_)
    · have e10 : ((f % 4 : Nat) : Int) = 1 := e1
      refine call_con [] (fun β w' hs => by
        have h := rEncode_c w' B3 (Bx.handle n) d3 false (by rw [Bx.handle_len]; decide) ((hs.rdRow 0 rfl).mem.take (js := [0]) rfl)
        rw [Bx.handle_len] at h
        exact h) ?_
      rintro v Fs ⟨rfl, rfl⟩
      refine ⟨by rw [mkS_sz, hml]; show 1 + _ ≤ _; have := hel false; omega, ?_⟩
      have e9 : (⟨#[32]⟩ : ByteArray) ++ mkS (encS false (Bx.handle n)) = mkS (32 :: encS false (Bx.handle n)) := mkS_cat [32] (encS false (Bx.handle n))
      rw [e9]
      refine ⟨by rw [mkS_sz, hml, List.length_cons]; show _ + 1 ≤ _; have := hel false; omega, ?_⟩
      have e8 : mkS (32 :: encS false (Bx.handle n)) ++ (⟨#[32]⟩ : ByteArray) = mkS (32 :: (encS false (Bx.handle n) ++ [32])) := mkS_cat (32 :: encS false (Bx.handle n)) [32]
      rw [e8]
      intro b1 b2 q4 q5
      refine tri_join (ι := KfJ) (fun j => j.Ok n f) 0 (fun j => [(0, .c (.v (.slice B1 x1.length d1))), (1, .c (.v (.slice B2 x2.length d2))), (2, .c (.v (.int .u32 (n : Int)))), (3, .c (.v (.int .u8 (f : Int)))), (4, .c (.v (.int .u8 (st : Int)))), (12, .c (.v (.slice j.A j.l.length j.c)))]) (fun _ => []) (fun j => [bsF j.A j.l, browF ty_uint8 B1 x1 d1, browF ty_uint8 B2 x2 d2]) hkey (EntX.of ⟨some ⟨b1, 0, none⟩, 32 :: (encS false (Bx.handle n) ++ [32]), b2⟩ ⟨by have := hel false; show (32 :: (encS false (Bx.handle n) ++ [32])).length ≤ 100; rw [List.length_cons, List.length_append]; show _ + 1 + 1 ≤ 100; omega, fun h0 _ a b => found_std hn h0⟩ (Ent.mk' ⟨rfl, rfl, rfl, rfl, rfl, rfl, trivial⟩ rfl (fun β w' hs => (hs.unown 0 rfl).perm [0, 3, 2])))
    have e10 : ¬ ((f % 4 : Nat) : Int) = 1 := e1
    refine BIf.dec (fun e2 => ?_) (fun e2 => ?_)
    · have e20 : ((f % 4 : Nat) : Int) = 2 := e2
      refine call_con [] (fun β w' hs => by
        have h := rEncode_c w' B3 (Bx.handle n) d3 true (by rw [Bx.handle_len]; decide) ((hs.rdRow 0 rfl).mem.take (js := [0]) rfl)
        rw [Bx.handle_len] at h
        exact h) ?_
      rintro v Fs ⟨rfl, rfl⟩
      refine ⟨by rw [mkS_sz, hml]; show 1 + _ ≤ _; have := hel true; omega, ?_⟩
      have e9 : (⟨#[46]⟩ : ByteArray) ++ mkS (encS true (Bx.handle n)) = mkS (46 :: encS true (Bx.handle n)) := mkS_cat [46] (encS true (Bx.handle n))
      rw [e9]
      refine ⟨by rw [mkS_sz, hml, List.length_cons]; show _ + 1 ≤ _; have := hel true; omega, ?_⟩
      have e8 : mkS (46 :: encS true (Bx.handle n)) ++ (⟨#[46]⟩ : ByteArray) = mkS (46 :: (encS true (Bx.handle n) ++ [46])) := mkS_cat (46 :: encS true (Bx.handle n)) [46]
      rw [e8]
      intro b1 b2 q4 q5
      refine tri_join (ι := KfJ) (fun j => j.Ok n f) 0 (fun j => [(0, .c (.v (.slice B1 x1.length d1))), (1, .c (.v (.slice B2 x2.length d2))), (2, .c (.v (.int .u32 (n : Int)))), (3, .c (.v (.int .u8 (f : Int)))), (4, .c (.v (.int .u8 (st : Int)))), (12, .c (.v (.slice j.A j.l.length j.c)))]) (fun _ => []) (fun j => [bsF j.A j.l, browF ty_uint8 B1 x1 d1, browF ty_uint8 B2 x2 d2]) hkey (EntX.of ⟨some ⟨b1, 0, none⟩, 46 :: (encS true (Bx.handle n) ++ [46]), b2⟩ ⟨by have := hel true; show (46 :: (encS true (Bx.handle n) ++ [46])).length ≤ 100; rw [List.length_cons, List.length_append]; show _ + 1 + 1 ≤ 100; omega, fun h0 _ a b => found_url hn h0⟩ (Ent.mk' ⟨rfl, rfl, rfl, rfl, rfl, rfl, trivial⟩ rfl (fun β w' hs => (hs.unown 0 rfl).perm [0, 3, 2])))
    have e20 : ¬ ((f % 4 : Nat) : Int) = 2 := e2
    refine call_pu (v := .string (mkS (hexB (Bx.handle n)))) (fun β w' hs => by
      have h := rhex_c w' B3 (Bx.handle n) d3 (row_rd (hs.get 0 rfl)) (by rw [Bx.handle_len]; decide)
      rw [Bx.handle_len] at h
      exact h) ?_
    refine ⟨by rw [mkS_sz, hml]; show 1 + _ ≤ _; have := hhl; omega, ?_⟩
    have e9 : (⟨#[34]⟩ : ByteArray) ++ mkS (hexB (Bx.handle n)) = mkS (34 :: hexB (Bx.handle n)) := mkS_cat [34] (hexB (Bx.handle n))
    rw [e9]
    refine ⟨by rw [mkS_sz, hml, List.length_cons]; show _ + 1 ≤ _; have := hhl; omega, ?_⟩
    have e8 : mkS (34 :: hexB (Bx.handle n)) ++ (⟨#[34]⟩ : ByteArray) = mkS (34 :: (hexB (Bx.handle n) ++ [34])) := mkS_cat (34 :: hexB (Bx.handle n)) [34]
    rw [e8]
    intro b1 b2 q4 q5
    refine tri_join (ι := KfJ) (fun j => j.Ok n f) 0 (fun j => [(0, .c (.v (.slice B1 x1.length d1))), (1, .c (.v (.slice B2 x2.length d2))), (2, .c (.v (.int .u32 (n : Int)))), (3, .c (.v (.int .u8 (f : Int)))), (4, .c (.v (.int .u8 (st : Int)))), (12, .c (.v (.slice j.A j.l.length j.c)))]) (fun _ => []) (fun j => [bsF j.A j.l, browF ty_uint8 B1 x1 d1, browF ty_uint8 B2 x2 d2]) hkey (EntX.of ⟨some ⟨b1, 0, none⟩, 34 :: (hexB (Bx.handle n) ++ [34]), b2⟩ ⟨by have := hhl; show (34 :: (hexB (Bx.handle n) ++ [34])).length ≤ 100; rw [List.length_cons, List.length_append]; show _ + 1 + 1 ≤ 100; omega, fun h0 _ a b => found_hex hn h0⟩ (Ent.mk' ⟨rfl, rfl, rfl, rfl, rfl, rfl, trivial⟩ rfl (fun β w' hs => (hs.unown 0 rfl).perm [0, 3, 2])))
  · rintro ⟨A, l, c⟩ ⟨hl, hfd⟩
    simp only at hl hfd
    refine tri_seq g ?_
    refine call_con [] (fun β w' hs => copyC w' B1 x1 d1 (row_rd (hs.get 1 rfl)) (by unfold lim; omega)) ?_
    rintro v Fs ⟨B4, d4, rfl, q4, _, rfl⟩
    obtain ⟨y, hy⟩ : ∃ y, y = x1 ++ l := ⟨_, rfl⟩
    have hyl : x1.length + l.length = y.length := by rw [hy, List.length_append]
    refine ⟨0, x1.length, y.length, x1.map byte, l.map byte, y.map byte, rfl, fun β w' hs => hs.get 1 rfl, bytes_one _, hyl, by rw [hy, List.map_append], by rw [hml]; omega, by show y.length * 1 ≤ _; omega, ?_⟩
    intro B5 d5 r1 r2 r3
    obtain ⟨z, hz⟩ : ∃ z, z = y ++ x2 := ⟨_, rfl⟩
    have hzl : y.length + x2.length = z.length := by rw [hz, List.length_append]
    refine ⟨0, y.length, z.length, y.map byte, x2.map byte, z.map byte, rfl, fun β w' hs => row_rd (hs.get 3 rfl), bytes_one _, hzl, by rw [hz, List.map_append], by rw [hml]; omega, by show z.length * 1 ≤ _; omega, ?_⟩
    intro B6 d6 s1 s2 s3
    have hfz : 0 < n → 0 < f % 4 → n ∈ foundS z := fun a b => by rw [hz, hy]; exact hfd a b x1 x2
    refine tri_seq g ?_
    refine call_con [] (R := fun v Fs => ∃ A' c', v = .slice A' (foundS z).length c' ∧ (0 < (foundS z).length → ∃ ad, A' = some ad) ∧ Fs = [irowF A' (foundS z) c']) (fun β w' hs => Found_c w' B6 z d6 (by omega) s1 ((hs.rdRow 0 rfl).mem.take (js := [0]) rfl)) ?_
    rintro v Fs ⟨B7, d7, rfl, _, rfl⟩
    refine tri_seq g ?_
    apply tri_share (cx := cx_ostiarylaw28_KnowsFinds w (Un [])) (ι := Unit) (fun _ => True) 0 (fun _ => [(4, .c (.v (.int .u8 (st : Int)))), (13, .c (.v (.slice B6 z.length d6)))]) (fun _ => []) (fun _ => [browF ty_uint8 B6 z d6])
    · intro hkey
      refine call_con [] (fun β w' hs => by
        have h := rFound_c w' B6 z d6 (by omega) s1 ((hs.rdRow 1 rfl).mem.take (js := [0]) rfl)
        rw [puts_found] at h
        exact h) ?_
      rintro v Fs ⟨B8, d8, rfl, rfl⟩
      have hfl := foundS_len z
      have hie : ints (foundS z) = ((foundS z).map Int.ofNat).map (Value.int .i64) := by simp [ints]
      have hil : ((foundS z).map Int.ofNat).length = (foundS z).length := List.length_map ..
      refine call_pu (v := .bool true) (fun β w' hs => by
        have ha : Rd 1 B7 (foundS z).length (ints (foundS z)) w' := row_rd (hs.get 1 rfl)
        have hb : Rd 1 B8 (foundS z).length (ints (foundS z)) w' := row_rd (hs.get 0 rfl)
        rw [hie] at ha hb
        have h := equalJ_c w' B7 B8 ((foundS z).map Int.ofNat) ((foundS z).map Int.ofNat) d7 d8 (by rw [hil]; exact ha) (by rw [hil]; exact hb) (by rw [hil]; omega)
        rw [hil, decide_eq_true rfl] at h
        exact h) ?_
      refine BIf.dec (fun e0 => ?_) (fun e0 => ?_)
      · have e00 : (0 : Int) < (n : Int) := e0
        refine ⟨by first | decide | omega, ?_⟩
        refine ⟨((f % 4 : Nat) : Int), Int.ofNat_tmod _ _, ?_⟩
        refine BIf.dec (fun e1 => ?_) (fun e1 => ?_)
        · have e10 : (0 : Int) < ((f % 4 : Nat) : Int) := e1
          refine ⟨_, wrap_i64 (by omega) (by omega), ?_⟩
          refine call_pu (v := .bool true) (fun β w' hs => by
            have h := containsI_c w' B7 (foundS z) d7 n (row_rd (hs.get 1 rfl)) (by omega)
            rw [decide_eq_true (hfz (by omega) (by omega))] at h
            exact h) ?_
          refine tri_join (ι := Unit) (fun _ => True) 0 (fun _ => [(4, .c (.v (.int .u8 (st : Int)))), (13, .c (.v (.slice B6 z.length d6)))]) (fun _ => []) (fun _ => [browF ty_uint8 B6 z d6]) hkey (EntX.of () trivial (Ent.mk' ⟨rfl, rfl, trivial⟩ rfl (fun β w' hs => hs.perm [2])))
        · refine tri_join (ι := Unit) (fun _ => True) 0 (fun _ => [(4, .c (.v (.int .u8 (st : Int)))), (13, .c (.v (.slice B6 z.length d6)))]) (fun _ => []) (fun _ => [browF ty_uint8 B6 z d6]) hkey (EntX.of () trivial (Ent.mk' ⟨rfl, rfl, trivial⟩ rfl (fun β w' hs => hs.perm [2])))
      · refine tri_join (ι := Unit) (fun _ => True) 0 (fun _ => [(4, .c (.v (.int .u8 (st : Int)))), (13, .c (.v (.slice B6 z.length d6)))]) (fun _ => []) (fun _ => [browF ty_uint8 B6 z d6]) hkey (EntX.of () trivial (Ent.mk' ⟨rfl, rfl, trivial⟩ rfl (fun β w' hs => hs.perm [2])))
    · rintro ⟨⟩ -
      refine tri_of g ?_
      obtain ⟨k, hk⟩ : ∃ k, k = 1 + st % 4 := ⟨_, rfl⟩
      refine ⟨by first | decide | omega, ?_⟩
      refine ⟨((st % 4 : Nat) : Int), Int.ofNat_tmod _ _, ?_⟩
      refine ⟨_, wrap_i64 (by omega) (by omega), ?_⟩
      refine ⟨(k : Int), by rw [wrap_i64 (by omega) (by omega)]; omega, ?_⟩
      refine call_con [] (fun β w' hs => rRuns_c w' B6 z d6 (by omega) ((hs.rdRow 0 rfl).mem.take (js := [0]) rfl)) ?_
      rintro v Fs ⟨B9, d9, rfl, hd9, rfl⟩
      obtain ⟨L, hL⟩ : ∃ L, (runsA z).map mkS = L := ⟨_, rfl⟩
      have hLl : L.length ≤ z.length + 1 := by rw [← hL, List.length_map]; exact runsF_num z []
      rw [hL] at hd9 ⊢
      have hkL : (L.take (min L.length k)) = L.take k := by
        rcases Nat.le_total L.length k with q | q
        · rw [Nat.min_eq_left q, List.take_length, List.take_of_length_le q]
        · rw [Nat.min_eq_right q]
      refine draw_rule g p_ostiarylaw28_KnowsFinds_20 (by kernel_rfl) [] [] (Sub.of (List.Sublist.refl _) (List.nil_sublist _)) ?_
      refine call_con [] (fun β w' hs => Runs_c w' B6 z.length d6) ?_
      rintro v Fs ⟨bx, rfl, rfl⟩
      refine ⟨subPerm [], ?_⟩
      refine call_con [0] (fun β w' hs => by
        have h := collectR_c w' bx B6 z d6 (by omega) s1 (by rw [hL]; omega) (((hs.rdRow 2 rfl).perm [1, 0]).mem.take (js := [0, 1]) rfl)
        rw [hL] at h
        exact h) ?_
      rintro v Fs ⟨B10, d10, rfl, rfl⟩
      refine ⟨subPerm [], ?_⟩
      refine call_pu (v := .bool true) (fun β w' hs => by
        have h := equalS_c w' B10 B9 L L d10 d9 (row_rd (hs.get 0 rfl)) (row_rd (hs.get 1 rfl)) (by omega)
        rw [decide_eq_true rfl] at h
        exact h) ?_
      refine ⟨subPerm [], ?_⟩
      obtain ⟨m, hm⟩ : ∃ m, m = min L.length k := ⟨_, rfl⟩
      refine ⟨(m : Int), by show min (L.length : Int) (k : Int) = _; omega, ?_⟩
      refine ⟨d9, m, 0, m, d9, B9, rfl, rfl, rfl, Nat.le_refl _, by omega, Nat.zero_le _, rfl, rfl, cutA_zero', ?_⟩
      refine call_con [] (fun β w' hs => by
        have h := first_c' w' B6 z d6 k (by omega) (by omega) s1 (by rw [hL]; omega) ((hs.rdRow 2 rfl).mem.take (js := [0]) rfl)
        rw [hL] at h
        exact h) ?_
      rintro v Fs ⟨B11, d11, rfl, rfl⟩
      refine ⟨subPerm [], ?_⟩
      rw [← hm] at hkL
      have hml2 : (L.take m).length = m := by rw [List.length_take]; omega
      refine call_pu (v := .bool true) (fun β w' hs => by
        have hr : Rd 1 B9 m (strs (L.take m)) w' := by
          have h := Rd.take (row_rd (show (srowF B9 L d9).p w' from hs.get 2 rfl)) (k := m) (by omega)
          unfold strs at h ⊢
          rw [← List.map_take] at h
          exact h
        have h := equalS_c w' B11 B9 (L.take k) (L.take m) d11 d9 (row_rd (hs.get 0 rfl)) (by rw [hml2]; exact hr) (by rw [List.length_take]; omega)
        rw [hml2, decide_eq_true hkL.symm] at h
        exact h) ?_
      refine ⟨subPerm [], ?_⟩
      intro β w' hs
      exact hs.fin [] ⟨rfl, rfl⟩
end Go.Proofs.YtoifclfanabalaaGreatDoor.Sx

/- What a law begins with: what is only read. -/
namespace Go.Proofs.YtoifclfanabalaaGreatDoor.Sx
open Go

def RoOk (w : World) (f : Fact) : Prop := f.own = false ∧ f.p w ∧ ∀ k, f.D k → k < w.heap.size
theorem mem_ro {w : World} {Fs : List Fact} (h : ∀ f ∈ Fs, RoOk w f) : Mem w Fs := by
  refine ⟨fun f hf => (h f hf).2.1, fun f hf k hk => (h f hf).2.2 k hk, ?_⟩
  induction Fs with
  | nil => exact List.Pairwise.nil
  | cons f r ih =>
    refine List.pairwise_cons.2 ⟨fun g hg q => ?_, ih (fun g hg => h g (List.mem_cons_of_mem _ hg))⟩
    rcases q with q | q
    · rw [(h f List.mem_cons_self).1] at q; cases q
    · rw [(h g (List.mem_cons_of_mem _ hg)).1] at q; cases q
theorem rd_ok {w : World} {size : Nat} {A : Option Addr} {k : Nat} {xs : List Value} (h : Rd size A k xs w) : RoOk w (rdF size A k xs) := ⟨rfl, h, rd_lt h⟩
theorem ro_nil {w : World} : ∀ f ∈ ([] : List Fact), RoOk w f := fun f h => by cases h
theorem ro_cons {w : World} {f : Fact} {r : List Fact} (h1 : RoOk w f) (h2 : ∀ g ∈ r, RoOk w g) : ∀ g ∈ f :: r, RoOk w g := fun g hg => by
  rcases List.mem_cons.1 hg with rfl | hg
  · exact h1
  · exact h2 g hg
end Go.Proofs.YtoifclfanabalaaGreatDoor.Sx

/- A law's proof is lifted, the world's shape kept; the library's own variable. -/
namespace Go.Proofs.YtoifclfanabalaaGreatDoor.Sx
open Go

theorem handed_shaped {H : Type} {enc : TypeId × Value → H} {a : Assume} {C : Checked} {os : Os} {f : FuncId} {fn : Func} {s : ChangeSpec} {conds : List PathCond} {apart fresh handsOn again : Bool} {X : World → Array Value → Prop}
    (hX : ∀ (w w' : World) (args : Array Value), w.heap = w'.heap → X w args → X w' args)
    (own : ownKnob C.prog.godebug = none) (started : os.Started) (noInit : C.prog.inits.idxOf? f = none) (hfn : C.prog.funcs[f]? = some fn)
    (witness : ∃ (w : World) (tape : Tape) (i : Input), w.os = os ∧ (w.forCall tape i).Shaped C.prog ∧ i.vars = [] ∧ Input.okWide C.prog (w.forCall tape i) .any w.heap.size f i ∧
      ((s.pre enc C.prog fn conds apart (w.forCall tape i).memory i.args ∧ X (w.forCall tape i).memory i.args) ∧ sizedMet enc C.prog fn (OpenSpec.ofChange s) apart (w.forCall tape i).memory i.args) ∧ a.holds C.prog (lone (Frame.enter C.prog f i.args .normal) [] (w.forCall tape i)))
    (key : ∀ (W : World) (base : Nat) (args : Array Value) (ds gs : List (DataW H)) (before : List MemPlace),
      (∀ (j : Nat) t v, fn.params[j]? = some t → args[j]? = some v → Value.okWide C.prog W .any base t v) →
      DataW.Whole enc C.prog fn.params.toList s.vars apart W args.toList ds gs before → X W args → W.ShapedOpen C.prog →
      Calls C.prog f args W fun e W' => ∃ v, e = .returned v ∧ s.post enc C.prog fn apart fresh handsOn again W args v W') :
    ReturnsInHanded a C os f .any (fun w args => (s.pre enc C.prog fn conds apart w args ∧ X w args) ∧ sizedMet enc C.prog fn (OpenSpec.ofChange s) apart w args) (s.post enc C.prog fn apart fresh handsOn again) := by
  refine returnsInHanded_of_calls own started noInit witness (fun w tape i _ hshape _ hin hp _ => ?_)
  obtain ⟨_, _, _, fn2, hfn2, _, _, _, _, hvals⟩ := hin
  obtain rfl : fn2 = fn := Option.some.inj (hfn2.symm.trans hfn)
  obtain ⟨⟨⟨ds, gs, before, hwh, _⟩, hx⟩, _⟩ := hp
  refine (key (w.forCall tape i) w.heap.size i.args ds gs before hvals (DataW.Whole.of_heap (w' := w.forCall tape i) (by rfl) hwh) (hX _ _ _ (by rfl) hx) hshape).mono fun e W' ⟨v, he, hq⟩ => ?_
  subst he
  exact ChangeSpec.post_blind hq
theorem ml_of {w : World} (h : w.ShapedOpen Tryz.prog) : mlF.p w :=
  cell_of_shapedOpen_int (P := Tryz.prog) (g := 1) (t := ty_int) (zero := #[.int .i64 0]) h (of_decide_eq_true (by kernel_rfl)) (by kernel_rfl) rfl (by kernel_rfl) (by kernel_rfl) (ok3.real (d := .int .i64) rfl rfl)
theorem ml_ok {w : World} (h : mlF.p w) : RoOk w mlF := by
  refine ⟨rfl, h, fun k hk => ?_⟩
  obtain ⟨m, hm⟩ := h
  obtain rfl : k = 1 := hk
  unfold World.cell? at hm
  rcases Nat.lt_or_ge 1 w.heap.size with q | q
  · exact q
  · simp [Array.getElem?_eq_none q] at hm
end Go.Proofs.YtoifclfanabalaaGreatDoor.Sx

/- What a statement's proof has of its arguments, in this executor's words. -/
namespace Go.Proofs.YtoifclfanabalaaGreatDoor.Sx
open Go Go.RowKit

theorem below_of {w w' : World} (h : Chg None_ w w') : Below w.heap.size w w' :=
  ⟨h.os, h.tape, h.output, h.size, fun k hk => h.same k hk (fun q => q)⟩
end Go.Proofs.YtoifclfanabalaaGreatDoor.Sx

/- Tables that are laid: what their cells are. -/
namespace Go.Proofs.YtoifclfanabalaaGreatDoor.Sx
open Go

theorem rd_of_ints {H : Type} {enc : TypeId × Value → H} {P : Program} {W : World} {base : Nat} {sp : Nat → Bool} {held : Bool} {fuel g n : Nat} {t e : TypeId} {k : IntKind} {cs : Array Value} {zs : List Int} {q : List MemPlace}
    (ht : P.underlying t = some (.array n e)) (he : P.underlying e = some (.int k)) (hc : P.cellsOf e = 1) (hd : DataW.trod enc P W base sp held fuel t cs.toList = some (.agg (zs.map fun z => .lit (.int k z)), q)) (hcell : ∀ j, W.cell? ⟨g, j, none⟩ = cs[j]?) :
    Rd 1 (some ⟨g, 0, none⟩) zs.length (zs.map (Value.int k)) W := by
  obtain ⟨xs, m, _, hx, hlen, hn, hel⟩ := DataW.trod_array ht hd
  simp only [Prod.mk.injEq, DataW.agg.injEq] at hx
  have hzn : zs.length = n := by
    have h9 := congrArg List.length hx.1
    simp only [List.length_map] at h9
    omega
  refine ⟨by simp, fun hp => ⟨_, rfl, fun j u hu => ?_⟩⟩
  rw [List.getElem?_map] at hu
  obtain ⟨z, hz, rfl⟩ := Option.map_eq_some_iff.1 hu
  have hj : j < zs.length := (List.getElem?_eq_some_iff.1 hz).1
  have h1 := hel j (by omega)
  have h2 : (xs.map (·.1))[j]? = some (.lit (.int k z)) := by rw [← hx.1, List.getElem?_map, hz]; rfl
  rw [List.getElem?_map] at h2
  obtain ⟨x, hxj, hx1⟩ := Option.map_eq_some_iff.1 h2
  rw [hxj, hc, Nat.mul_one] at h1
  obtain ⟨y, e1, e2, _⟩ := DataW.trod_int he h1
  have hy : y = z := by
    rw [e2] at hx1
    simpa using hx1
  subst hy
  rw [add_none, Nat.zero_add, hcell j, ← Array.getElem?_toList]
  have h3 := congrArg (fun l => l[0]?) e1
  simpa [List.getElem?_drop] using h3
abbrev u32s (l : List UInt32) : List Int := l.map fun x => (x.toNat : Int)
theorem rd_u32 {g : Nat} {W : World} {l : List UInt32} (h : Rd 1 (some ⟨g, 0, none⟩) (u32s l).length ((u32s l).map (Value.int .u32)) W) : Rd 1 (some ⟨g, 0, none⟩) l.length (l.map u32) W := by
  have e : (u32s l).map (Value.int .u32) = l.map u32 := by rw [List.map_map]; rfl
  rw [e, List.length_map] at h
  exact h
end Go.Proofs.YtoifclfanabalaaGreatDoor.Sx

/- Tables that are laid, of any plain types: their cells are what they hold, in order. -/
namespace Go.Proofs.YtoifclfanabalaaGreatDoor.Sx
open Go

section
variable {H : Type} {enc : TypeId × Value → H} {P : Program} {w : World} {base : Nat} {sp : Nat → Bool} {held : Bool}
end
end Go.Proofs.YtoifclfanabalaaGreatDoor.Sx
