/- Texts joined: StoL, Sto1, Sto2, Sto3, Sto4, Sto5, Sto6, Sto7, Sto8, Aw14, Iter, Keys, Key2, Ten, Ten2, UsE, Mst1, Mst2, RHx, SxTri, Mst3, Mst4, SxArg, Laid, Laid2. -/
import Derived.Test.YthkjfepbmnabkaaDoorMCredMost2
import Derived.Shelf.SlGeneric
import Derived.Shelf.SlIter.Nil
import Derived.Shelf.SortM.Plain
import Derived.Shelf.SortM.SortNone
import Derived.Ground.GgzProg
import Derived.Ground.SlgmProg
import Derived.Test.YthkjfepbmnabkaaDoorProg
import Derived.Maps.Keyed
import Derived.Below
import Derived.Test.YthkjfepbmnabkaaDoorMCredMost1
import Derived.OpenShut
import Derived.ChangeArms
import Derived.LaidMore
set_option linter.unusedVariables false
set_option linter.unusedSimpArgs false
/- Who there is: a store, plainly; and in memory. -/
namespace Go.Proofs.YthkjfepbmnabkaaDoor.Sx
open Go

/-! ### plainly -/
structure ASec where
  salt : List UInt8
  iter : Int
  stored : List UInt8
  server : List UInt8
  ha1 : List UInt8
structure ACrd where
  tenant : ByteArray
  user : ByteArray
  sec : ASec
  gen : Nat
  roles : List ByteArray
  revoked : Bool
abbrev ATs := List (ByteArray × List ACrd)
structure ASto where
  ts : ATs
  last : Nat
  reads : Int
def aten : ATs → ByteArray → Option (List ACrd)
  | [], _ => none
  | (k, us) :: r, t => if k = t then some us else aten r t
def ausr : List ACrd → ByteArray → Option ACrd
  | [], _ => none
  | c :: r, n => if c.user = n then some c else ausr r n
def atenU : ATs → ByteArray → (List ACrd → List ACrd) → ATs
  | [], _, _ => []
  | (k, us) :: r, t, f => if k = t then (k, f us) :: r else (k, us) :: atenU r t f
def ausrU : List ACrd → ByteArray → (ACrd → ACrd) → List ACrd
  | [], _, _ => []
  | c :: r, n, f => if c.user = n then f c :: r else c :: ausrU r n f
def atenD : ATs → ByteArray → ATs
  | [], _ => []
  | (k, us) :: r, t => if k = t then r else (k, us) :: atenD r t
def ausrD : List ACrd → ByteArray → List ACrd
  | [], _ => []
  | c :: r, n => if c.user = n then r else c :: ausrD r n
def aget (X : ASto) (t n : ByteArray) : Option ACrd := (aten X.ts t).bind fun us => ausr us n
/-- A user by any form of his name. -/
def aone (X : ASto) (t u : ByteArray) : Option ACrd := if (nameA u).2 = 0 then aget X t (nameA u).1 else none
def saltedA (l : List UInt8) (iter : Int) : Bool := decide (1 ≤ l.length) && (decide (l.length ≤ 32) && (decide (1 ≤ iter) && decide (iter ≤ 64)))
def rightA (x : ASec) : Bool := saltedA x.salt x.iter && (decide (x.stored.length = 32) && (decide (x.server.length = 32) && decide (x.ha1.length = 32)))
def greatN : Nat := 9007199254740992

/-! ### in memory -/
structure Sec where
  salt : Ro
  iter : Int
  stored : Ro
  server : Ro
  ha1 : Ro
def Sec.vs (x : Sec) : List Value := [x.salt.v, .int .i64 x.iter, x.stored.v, x.server.v, x.ha1.v]
def Sec.fs (x : Sec) : List Fact := [x.salt.f, x.stored.f, x.server.f, x.ha1.f]
def Sec.a (x : Sec) : ASec := ⟨x.salt.l, x.iter, x.stored.l, x.server.l, x.ha1.l⟩
/-- Texts of one's own. -/
def strsF (A : Option Addr) (l : List ByteArray) : Fact := rdoF 1 A l.length (l.map Value.string)
structure Crd where
  b : Nat
  tenant : ByteArray
  user : ByteArray
  sec : Sec
  gen : Nat
  rA : Option Addr
  rc : Nat
  roles : List ByteArray
  revoked : Bool
def Crd.vs (c : Crd) : List Value := .string c.tenant :: .string c.user :: (c.sec.vs ++ [.int .u64 c.gen, .slice c.rA c.roles.length c.rc, .bool c.revoked])
def Crd.parts (c : Crd) : List Fact := strsF c.rA c.roles :: c.sec.fs
def Crd.fs (c : Crd) : List Fact := bkF c.b ty_cred_Cred c.vs :: c.parts
def Crd.a (c : Crd) : ACrd := ⟨c.tenant, c.user, c.sec.a, c.gen, c.roles, c.revoked⟩
def crdF (c : Crd) : Fact := sepF c.fs
def ptr (b : Nat) : Value := .pointer (some ⟨b, 0, none⟩)
structure Ten where
  b : Nat
  name : ByteArray
  us : List Crd
def Ten.m (T : Ten) : ML := T.us.map fun c => (c.user, ptr c.b)
def tenF (T : Ten) : Fact := sepF [mapF T.b T.m, sepF (T.us.map crdF)]
def Ten.a (T : Ten) : ByteArray × List ACrd := (T.name, T.us.map Crd.a)
structure Sto where
  b : Nat
  m : Nat
  ts : List Ten
  last : Nat
  reads : Int
def Sto.vs (S : Sto) : List Value := [.map (some S.m), .int .u64 (S.last : Int), .int .u64 S.reads]
def Sto.ml (S : Sto) : ML := S.ts.map fun T => (T.name, .map (some T.b))
def stoF (S : Sto) : Fact := sepF [bkF S.b ty_cred_Store S.vs, mapF S.m S.ml, sepF (S.ts.map tenF)]
def Sto.a (S : Sto) : ASto := ⟨S.ts.map Ten.a, S.last, S.reads⟩

/-! ### a map of what is there -/
def tenO : List Ten → ByteArray → Option Ten
  | [], _ => none
  | T :: r, t => if T.name = t then some T else tenO r t
def crdO : List Crd → ByteArray → Option Crd
  | [], _ => none
  | c :: r, n => if c.user = n then some c else crdO r n
theorem look_ten (t : ByteArray) : ∀ ts : List Ten, (∃ A T B, ts = A ++ T :: B ∧ tenO ts t = some T ∧ T.name = t ∧ mlook (ts.map fun T => (T.name, Value.map (some T.b))) t = some (.map (some T.b)) ∧ aten (ts.map Ten.a) t = some (T.us.map Crd.a) ∧
      (∀ T' : Ten, ∀ f, T'.name = t → T'.us.map Crd.a = f (T.us.map Crd.a) → (A ++ T' :: B).map Ten.a = atenU (ts.map Ten.a) t f) ∧ (A ++ B).map Ten.a = atenD (ts.map Ten.a) t ∧ (A ++ B).map (fun T : Ten => (T.name, Value.map (some T.b))) = mdel (ts.map fun T => (T.name, Value.map (some T.b))) t) ∨
    (mlook (ts.map fun T => (T.name, Value.map (some T.b))) t = none ∧ aten (ts.map Ten.a) t = none ∧ tenO ts t = none)
  | [] => .inr ⟨rfl, rfl, rfl⟩
  | T :: r => by
    by_cases h : T.name = t
    · refine .inl ⟨[], T, r, rfl, by simp [tenO, h], h, ?_, ?_, ?_, ?_, ?_⟩
      · simp [mlook, h]
      · simp [aten, Ten.a, h]
      · intro T' f h1 h2
        simp [atenU, Ten.a, h, h1, h2]
      · simp [atenD, Ten.a, h]
      · simp [mdel, h]
    · rcases look_ten t r with ⟨A, T0, B, rfl, h0, h1, h2, h3, h4, h5, h6⟩ | ⟨h1, h2, h3⟩
      · refine .inl ⟨T :: A, T0, B, rfl, by simpa [tenO, h] using h0, h1, ?_, ?_, ?_, ?_, ?_⟩
        · simpa [mlook, h] using h2
        · simpa [aten, Ten.a, h] using h3
        · intro T' f q1 q2
          have := h4 T' f q1 q2
          simp only [List.cons_append, List.map_cons, Ten.a, atenU, if_neg h] at this ⊢
          rw [this]
        · simp only [List.cons_append, List.map_cons, Ten.a, atenD, if_neg h] at h5 ⊢
          rw [h5]
        · simp only [List.cons_append, List.map_cons, mdel, if_neg h] at h6 ⊢
          rw [h6]
      · refine .inr ⟨?_, ?_, ?_⟩
        · simpa [mlook, h] using h1
        · simpa [aten, Ten.a, h] using h2
        · simpa [tenO, h] using h3
theorem look_crd (n : ByteArray) : ∀ us : List Crd, (∃ A c B, us = A ++ c :: B ∧ crdO us n = some c ∧ c.user = n ∧ mlook (us.map fun c => (c.user, ptr c.b)) n = some (ptr c.b) ∧ ausr (us.map Crd.a) n = some c.a ∧
      (∀ c' : Crd, ∀ f, c'.user = n → c'.a = f c.a → (A ++ c' :: B).map Crd.a = ausrU (us.map Crd.a) n f) ∧ (A ++ B).map Crd.a = ausrD (us.map Crd.a) n ∧ (A ++ B).map (fun c : Crd => (c.user, ptr c.b)) = mdel (us.map fun c => (c.user, ptr c.b)) n ∧
      (∀ c' : Crd, c'.user = n → c'.b = c.b → (A ++ c' :: B).map (fun c : Crd => (c.user, ptr c.b)) = us.map fun c => (c.user, ptr c.b))) ∨
    (mlook (us.map fun c => (c.user, ptr c.b)) n = none ∧ ausr (us.map Crd.a) n = none ∧ crdO us n = none)
  | [] => .inr ⟨rfl, rfl, rfl⟩
  | c :: r => by
    by_cases h : c.user = n
    · refine .inl ⟨[], c, r, rfl, by simp [crdO, h], h, ?_, ?_, ?_, ?_, ?_, ?_⟩
      · simp [mlook, h]
      · simp [ausr, Crd.a, h]
      · intro c' f h1 h2
        have h0 : c.a.user = n := h
        simp [ausrU, h0, h2]
      · simp [ausrD, Crd.a, h]
      · simp [mdel, h]
      · intro c' h1 h2
        simp [h1, h2, h]
    · have h0 : ¬ c.a.user = n := h
      rcases look_crd n r with ⟨A, c0, B, rfl, h8, h1, h2, h3, h4, h5, h6, h7⟩ | ⟨h1, h2, h3⟩
      · refine .inl ⟨c :: A, c0, B, rfl, by simpa [crdO, h] using h8, h1, ?_, ?_, ?_, ?_, ?_, ?_⟩
        · simpa [mlook, h] using h2
        · simp only [List.map_cons, ausr, if_neg h0]; exact h3
        · intro c' f q1 q2
          have := h4 c' f q1 q2
          simp only [List.cons_append, List.map_cons, ausrU, if_neg h0] at this ⊢
          rw [this]
        · simp only [List.cons_append, List.map_cons, ausrD, if_neg h0] at h5 ⊢
          rw [h5]
        · simp only [List.cons_append, List.map_cons, mdel, if_neg h] at h6 ⊢
          rw [h6]
        · intro c' q1 q2
          have := h7 c' q1 q2
          simp only [List.cons_append, List.map_cons] at this ⊢
          rw [this]
      · refine .inr ⟨?_, ?_, ?_⟩
        · simpa [mlook, h] using h1
        · simp only [List.map_cons, ausr, if_neg h0]; exact h2
        · simpa [crdO, h] using h3
end Go.Proofs.YthkjfepbmnabkaaDoor.Sx

/- Who there is: looked for. -/
namespace Go.Proofs.YthkjfepbmnabkaaDoor.Sx
open Go
attribute [local irreducible] Calls

theorem fact_old' {f : Fact} {W w : World} (h : f.p W) (hD : ∀ k, f.D k → k < W.heap.size) (ho : (oldF W).p w) : f.p w := f.st W w (fun k hk => ho k (hD k hk)) h

/-! ### what a store's fact gives -/
theorem sto_bk {S : Sto} {w : World} (h : (stoF S).p w) : (bkF S.b ty_cred_Store S.vs).p w := h.1 _ (by simp)
theorem sto_map {S : Sto} {w : World} (h : (stoF S).p w) : mapP S.m S.ml w := h.1 (mapF S.m S.ml) (by simp)
theorem sto_ten {S : Sto} {w : World} (h : (stoF S).p w) {A B : List Ten} {T : Ten} (hT : S.ts = A ++ T :: B) : (tenF T).p w := by
  have h1 : (sepF (S.ts.map tenF)).p w := h.1 _ (by simp)
  exact h1.1 _ (by rw [hT]; simp)
theorem ten_map {T : Ten} {w : World} (h : (tenF T).p w) : mapP T.b T.m w := h.1 (mapF T.b T.m) (by simp)
theorem ten_crd {T : Ten} {w : World} (h : (tenF T).p w) {A B : List Crd} {c : Crd} (hc : T.us = A ++ c :: B) : (crdF c).p w := by
  have h1 : (sepF (T.us.map crdF)).p w := h.1 _ (by simp)
  exact h1.1 _ (by rw [hc]; simp)
theorem crd_bk {c : Crd} {w : World} (h : (crdF c).p w) : (bkF c.b ty_cred_Cred c.vs).p w := h.1 _ (by simp [Crd.fs])
theorem bkc {b ty : Nat} {cs : List Value} {w : World} (h : (bkF b ty cs).p w) {o : Nat} {v : Value} (ho : cs[o]? = some v) : w.cell? ⟨b, o, none⟩ = some v := by
  have h' : w.heap[b]? = some (.cells cs.toArray ty (0, 0)) := h
  rw [cell_of_row w b o _ _ _ h']
  simpa using ho

/-- A tenant's map; none: nil. -/
def mapV : Option Ten → Value
  | some T => .map (some T.b)
  | none => .map none
def crdV : Option Crd → Value
  | some c => ptr c.b
  | none => .pointer none
def Sto.usr (S : Sto) (t u : ByteArray) : Option Crd := if (nameA u).2 = 0 then (tenO S.ts t).bind fun T => crdO T.us (nameA u).1 else none
theorem zero_map (w : World) : (zeroValue ty_map_string_ptr_cred_Cred).run Tryd.prog w = .ok (.map none) w := by kernel_rfl
theorem zero_ptrC (w : World) : (zeroValue ty_ptr_cred_Cred).run Tryd.prog w = .ok (.pointer none) w := by kernel_rfl
theorem users_c (w : World) (S : Sto) (t : ByteArray) (h : (stoF S).p w) (hl : ∀ k, (stoF S).D k → k < w.heap.size) : Pu Tryd.prog n_cred_Store_users #[ptr S.b, .string t] w (mapV (tenO S.ts t)) := by
  have g := good_cred_Store_users w (Un [])
  refine con_of_sx (cx := cx_cred_Store_users w (Un [])) g b_cred_Store_users rfl rfl (β := Va.z) [.c (.v (ptr S.b)), .c (.v (.string t))] 0 [] [oldF w] rfl rfl (old_sat rfl) ?_
  refine ⟨.map (some S.m), fun β w' hs => bkc (sto_bk (fact_old' h hl (hs.get 0 rfl))) rfl, ?_⟩
  refine ⟨.map none, fun w => zero_map w, S.ml, mlook S.ml t, fun β w' hs => sto_map (fact_old' h hl (hs.get 0 rfl)), rfl, ?_⟩
  rcases look_ten t S.ts with ⟨A, T, B, e, h0, h1, h2, _⟩ | ⟨h1, h2, h3⟩
  · rw [show mlook S.ml t = _ from h2, h0]
    intro β w' hs
    exact hs.fin [] ⟨rfl, rfl⟩
  · rw [show mlook S.ml t = _ from h1, h3]
    intro β w' hs
    exact hs.fin [] ⟨rfl, rfl⟩
theorem get_c (w : World) (S : Sto) (t u : ByteArray) (h : (stoF S).p w) (hl : ∀ k, (stoF S).D k → k < w.heap.size) (hu : u.size ≤ 100000) (hn : NamT w) : Pu Tryd.prog n_cred_Store_get #[ptr S.b, .string t, .string u] w (crdV (S.usr t u)) := by
  have g := good_cred_Store_get w (Un [])
  refine con_of_sx (cx := cx_cred_Store_get w (Un [])) g b_cred_Store_get rfl rfl (β := Va.z) [.c (.v (ptr S.b)), .c (.v (.string t)), .c (.v (.string u))] 0 [] [oldF w] rfl rfl (old_sat rfl) ?_
  obtain ⟨p, e, hpe⟩ : ∃ p e, nameA u = (p, e) := ⟨_, _, rfl⟩
  refine call_pu (v := .tuple #[.string p, .int .i64 e]) (fun β w' hs => by
    have h := nameA_c w' u hu (hn.old (hs.get 0 rfl))
    rw [hpe] at h
    exact h) ?_
  have hus : S.usr t u = if e = 0 then (tenO S.ts t).bind fun T => crdO T.us p else none := by unfold Sto.usr; rw [hpe]
  refine BIf.not (BIf.dec (fun he => ?_) (fun he => ?_))
  · have he0 : e = 0 := he
    rw [if_pos he0] at hus
    rcases look_ten t S.ts with ⟨A, T, B, eT, h0, h1, h2, _⟩ | ⟨h1, h2, h3⟩
    · refine call_pu (v := .map (some T.b)) (fun β w' hs => by
        have h := users_c w' S t (fact_old' h hl (hs.get 0 rfl)) (fun k hk => Nat.lt_of_lt_of_le (hl k hk) hs.chg.size)
        rw [h0] at h
        exact h) ?_
      refine ⟨.pointer none, fun w => zero_ptrC w, T.m, mlook T.m p, fun β w' hs => ten_map (sto_ten (fact_old' h hl (hs.get 0 rfl)) eT), rfl, ?_⟩
      rw [h0] at hus
      rcases look_crd p T.us with ⟨U, c, V, eU, q0, q1, q2, _⟩ | ⟨q1, q2, q3⟩
      · rw [show mlook T.m p = _ from q2]
        intro β w' hs
        refine hs.fin [] ⟨?_, rfl⟩
        rw [hus]
        show _ = crdV (crdO T.us p)
        rw [q0]
        rfl
      · rw [show mlook T.m p = _ from q1]
        intro β w' hs
        refine hs.fin [] ⟨?_, rfl⟩
        rw [hus]
        show _ = crdV (crdO T.us p)
        rw [q3]
        rfl
    · refine call_pu (v := .map none) (fun β w' hs => by
        have h := users_c w' S t (fact_old' h hl (hs.get 0 rfl)) (fun k hk => Nat.lt_of_lt_of_le (hl k hk) hs.chg.size)
        rw [h3] at h
        exact h) ?_
      refine ⟨.pointer none, fun w => zero_ptrC w, ?_⟩
      intro β w' hs
      refine hs.fin [] ⟨?_, rfl⟩
      rw [hus, h3]
      rfl
  · have he0 : ¬ e = 0 := he
    rw [if_neg he0] at hus
    intro β w' hs
    refine hs.fin [] ⟨?_, rfl⟩
    rw [hus]
    rfl
/-! ### the greatest generation; a touch -/
theorem last_c (w : World) (S : Sto) (h : (stoF S).p w) (hl : ∀ k, (stoF S).D k → k < w.heap.size) : Pu Tryd.prog n_cred_Store_Last #[ptr S.b] w (.int .u64 (S.last : Int)) := by
  have g := good_cred_Store_Last w (Un [])
  refine con_of_sx (cx := cx_cred_Store_Last w (Un [])) g b_cred_Store_Last rfl rfl (β := Va.z) [.c (.v (ptr S.b))] 0 [] [oldF w] rfl rfl (old_sat rfl) ?_
  refine ⟨.int .u64 (S.last : Int), fun β w' hs => bkc (sto_bk (fact_old' h hl (hs.get 0 rfl))) rfl, ?_⟩
  intro β w' hs
  exact hs.fin [] ⟨rfl, rfl⟩
theorem current_c (w : World) (S : Sto) (t u : ByteArray) (n : Int) (h : (stoF S).p w) (hl : ∀ k, (stoF S).D k → k < w.heap.size) (hu : u.size ≤ 100000) (hn : NamT w) :
    Pu Tryd.prog n_cred_Store_Current #[ptr S.b, .string t, .string u, .int .u64 n] w (.bool (match S.usr t u with | some c => !c.revoked && decide ((c.gen : Int) = n) | none => false)) := by
  have g := good_cred_Store_Current w (Un [])
  refine con_of_sx (cx := cx_cred_Store_Current w (Un [])) g b_cred_Store_Current rfl rfl (β := Va.z) [.c (.v (ptr S.b)), .c (.v (.string t)), .c (.v (.string u)), .c (.v (.int .u64 n))] 0 [] [oldF w] rfl rfl (old_sat rfl) ?_
  have hg := fun (w' : World) (ho : (oldF w).p w') (hz : w.heap.size ≤ w'.heap.size) => get_c w' S t u (fact_old' h hl ho) (fun k hk => Nat.lt_of_lt_of_le (hl k hk) hz) hu (hn.old ho)
  cases hc : S.usr t u with
  | none =>
    rw [hc] at hg
    refine call_pu (v := .pointer none) (fun β w' hs => hg w' (hs.get 0 rfl) hs.chg.size) ?_
    intro β w' hs
    exact hs.fin [] ⟨rfl, rfl⟩
  | some c =>
    rw [hc] at hg
    refine call_pu (v := ptr c.b) (fun β w' hs => hg w' (hs.get 0 rfl) hs.chg.size) ?_
    have hbk : ∀ w', (oldF w).p w' → (bkF c.b ty_cred_Cred c.vs).p w' := fun w' ho => by
      unfold Sto.usr at hc
      split at hc
      · rcases look_ten t S.ts with ⟨A, T, B, eT, h0, h1, h2, _⟩ | ⟨h1, h2, h3⟩
        · rw [h0] at hc
          have hc' : crdO T.us (nameA u).1 = some c := hc
          rcases look_crd (nameA u).1 T.us with ⟨U, c', V, eU, q0, q1, q2, _⟩ | ⟨q1, q2, q3⟩
          · rw [q0] at hc'
            obtain rfl := Option.some.inj hc'
            exact crd_bk (ten_crd (sto_ten (fact_old' h hl ho) eT) eU)
          · rw [q3] at hc'; cases hc'
        · rw [h3] at hc; cases hc
      · cases hc
    refine ⟨.bool c.revoked, fun β w' hs => bkc (hbk w' (hs.get 0 rfl)) rfl, ?_⟩
    cases hr : c.revoked with
    | true =>
      intro β w' hs
      refine hs.fin [] ⟨?_, rfl⟩
      show _ = Value.bool (!c.revoked && decide ((c.gen : Int) = n))
      rw [hr]
      rfl
    | false =>
      refine ⟨.int .u64 (c.gen : Int), fun β w' hs => bkc (hbk w' (hs.get 0 rfl)) rfl, ?_⟩
      intro β w' hs
      refine hs.fin [] ⟨?_, rfl⟩
      show _ = Value.bool (!c.revoked && decide ((c.gen : Int) = n))
      rw [hr]
      rfl
end Go.Proofs.YthkjfepbmnabkaaDoor.Sx

/- Who there is: secrets and credentials copied; a touch. -/
namespace Go.Proofs.YthkjfepbmnabkaaDoor.Sx
open Go
attribute [local irreducible] Calls

/-- A secret as it is handed about: four slices and a number. -/
structure SecV where
  A1 : Option Addr
  n1 : Nat
  c1 : Nat
  it : Int
  A2 : Option Addr
  n2 : Nat
  c2 : Nat
  A3 : Option Addr
  n3 : Nat
  c3 : Nat
  A4 : Option Addr
  n4 : Nat
  c4 : Nat
def SecV.vs (x : SecV) : List Value := [.slice x.A1 x.n1 x.c1, .int .i64 x.it, .slice x.A2 x.n2 x.c2, .slice x.A3 x.n3 x.c3, .slice x.A4 x.n4 x.c4]
def SecV.ss (x : SecV) : List SL := [.v (.slice x.A1 x.n1 x.c1), .v (.int .i64 x.it), .v (.slice x.A2 x.n2 x.c2), .v (.slice x.A3 x.n3 x.c3), .v (.slice x.A4 x.n4 x.c4)]
def rightN (x : SecV) : Bool := saltedN x.n1 x.it && (decide (x.n2 = 32) && (decide (x.n3 = 32) && decide (x.n4 = 32)))
theorem cright_c (w : World) (x : SecV) : Pu Tryd.prog n_cred_Secret_right #[.agg x.vs.toArray] w (.bool (rightN x)) := by
  have g := good_cred_Secret_right w (Un [])
  refine con_of_sx (cx := cx_cred_Secret_right w (Un [])) g b_cred_Secret_right rfl rfl (β := Va.z) [.agg x.ss] 0 [] [] rfl rfl (Sat.start rfl) ?_
  refine call_pu (fun β w' hs => csalted_c w' x.A1 x.n1 x.c1 x.it) ?_
  generalize hq : saltedN x.n1 x.it = b0
  cases b0 with
  | false =>
    intro β w' hs
    refine (hs.keepB (List.nil_sublist _)).fin [] ⟨?_, rfl⟩
    unfold rightN
    rw [hq]
    rfl
  | true =>
    conv => whnf
    generalize h1 : decide ((x.n2 : Int) = (32 : Int)) = b1
    have e1 : decide (x.n2 = 32) = b1 := by rw [← h1]; exact decide_eq_decide.2 (by omega)
    cases b1 with
    | false =>
      intro β w' hs
      refine (hs.keepB (List.nil_sublist _)).fin [] ⟨?_, rfl⟩
      unfold rightN
      rw [hq, e1]
      rfl
    | true =>
      conv => whnf
      generalize h2 : decide ((x.n3 : Int) = (32 : Int)) = b2
      have e2 : decide (x.n3 = 32) = b2 := by rw [← h2]; exact decide_eq_decide.2 (by omega)
      cases b2 with
      | false =>
        intro β w' hs
        refine (hs.keepB (List.nil_sublist _)).fin [] ⟨?_, rfl⟩
        unfold rightN
        rw [hq, e1, e2]
        rfl
      | true =>
        intro β w' hs
        refine (hs.keepB (List.nil_sublist _)).fin [] ⟨?_, rfl⟩
        unfold rightN
        rw [hq, e1, e2]
        show Value.bool (decide ((x.n4 : Int) = (32 : Int))) = _
        congr 1
        exact decide_eq_decide.2 (by omega)

/-- A secret that is read. -/
structure SRd (x : SecV) (a : ASec) (w : World) : Prop where
  n1 : x.n1 = a.salt.length
  it : x.it = a.iter
  n2 : x.n2 = a.stored.length
  n3 : x.n3 = a.server.length
  n4 : x.n4 = a.ha1.length
  r1 : Bs w x.A1 a.salt
  r2 : Bs w x.A2 a.stored
  r3 : Bs w x.A3 a.server
  r4 : Bs w x.A4 a.ha1
theorem SRd.old {x : SecV} {a : ASec} {W w : World} (h : SRd x a W) (ho : (oldF W).p w) : SRd x a w := ⟨h.n1, h.it, h.n2, h.n3, h.n4, Rd.old h.r1 ho, Rd.old h.r2 ho, Rd.old h.r3 ho, Rd.old h.r4 ho⟩
theorem SRd.right {x : SecV} {a : ASec} {w : World} (h : SRd x a w) : rightN x = rightA a := by
  unfold rightN rightA saltedN saltedA
  rw [h.n1, h.it, h.n2, h.n3, h.n4]
structure ASz (a : ASec) : Prop where
  s : a.salt.length ≤ 1000000
  d : a.stored.length ≤ 1000000
  v : a.server.length ≤ 1000000
  h : a.ha1.length ≤ 1000000
def Sec.x (y : Sec) : SecV := ⟨y.salt.A, y.salt.l.length, y.salt.c, y.iter, y.stored.A, y.stored.l.length, y.stored.c, y.server.A, y.server.l.length, y.server.c, y.ha1.A, y.ha1.l.length, y.ha1.c⟩
theorem Sec.rd {y : Sec} {w : World} (h : ∀ f ∈ y.fs, f.p w) : SRd y.x y.a w :=
  ⟨rfl, rfl, rfl, rfl, rfl, h y.salt.f (by simp [Sec.fs]), h y.stored.f (by simp [Sec.fs]), h y.server.f (by simp [Sec.fs]), h y.ha1.f (by simp [Sec.fs])⟩
theorem scopyOf_c (w : World) (x : SecV) (a : ASec) (hr : SRd x a w) (hz : ASz a) :
    Con Tryd.prog n_cred_Secret_copyOf #[.agg x.vs.toArray] w [] fun v Fs => ∃ y : Sec, y.a = a ∧ v = .agg y.vs.toArray ∧ Fs = [y.ha1.f, y.server.f, y.stored.f, y.salt.f] := by
  have g := good_cred_Secret_copyOf w (Un [])
  refine con_of_sx (cx := cx_cred_Secret_copyOf w (Un [])) g b_cred_Secret_copyOf rfl rfl (β := Va.z) [.agg x.ss] 0 [] [oldF w] rfl rfl (old_sat rfl) ?_
  have hS : ∀ {n : Nat} {F : List Fact}, Sub (cx_cred_Secret_copyOf w (Un [])) n [⟨1, ty_cred_Secret, ti29.zero.map SL.v⟩, ⟨0, ty_cred_Secret, x.ss⟩] F [⟨0, ty_cred_Secret, x.ss⟩] [] := fun {n F} => Sub.of (List.sublist_cons_self _ _) (List.nil_sublist _)
  refine draw_rule g p_cred_Secret_copyOf_1 (by kernel_rfl) [⟨0, ty_cred_Secret, x.ss⟩] [] hS ?_
  refine call_con [] (fun β w' hs => cloneRo_c w' x.A1 a.salt x.n1 x.c1 hr.n1 (Rd.old hr.r1 (hs.get 0 rfl)) hz.s) ?_
  rintro v Fs ⟨r1, e1, rfl, rfl⟩
  refine ⟨hS, ?_⟩
  refine call_con [] (fun β w' hs => cloneRo_c w' x.A2 a.stored x.n2 x.c2 hr.n2 (Rd.old hr.r2 (hs.get 1 rfl)) hz.d) ?_
  rintro v Fs ⟨r2, e2, rfl, rfl⟩
  refine ⟨hS, ?_⟩
  refine call_con [] (fun β w' hs => cloneRo_c w' x.A3 a.server x.n3 x.c3 hr.n3 (Rd.old hr.r3 (hs.get 2 rfl)) hz.v) ?_
  rintro v Fs ⟨r3, e3, rfl, rfl⟩
  refine ⟨hS, ?_⟩
  refine call_con [] (fun β w' hs => cloneRo_c w' x.A4 a.ha1 x.n4 x.c4 hr.n4 (Rd.old hr.r4 (hs.get 3 rfl)) hz.h) ?_
  rintro v Fs ⟨r4, e4, rfl, rfl⟩
  refine ⟨hS, ?_⟩
  intro β w' hs
  refine (hs.keepB (List.nil_sublist _)).fin [0, 1, 2, 3] ⟨⟨r1, x.it, r2, r3, r4⟩, ?_, rfl, rfl⟩ rfl rfl rfl ⟨rfl, rfl, rfl, rfl, trivial⟩
  show ASec.mk r1.l x.it r2.l r3.l r4.l = a
  rw [e1, e2, e3, e4, hr.it]

/-! ### texts -/
def strs (l : List ByteArray) : List Value := l.map Value.string
theorem strs_one (l : List ByteArray) : ∀ u ∈ strs l, u.oneCell' = true := by
  intro u hu
  obtain ⟨x, _, rfl⟩ := List.mem_map.1 hu
  rfl
abbrev srowF (A : Option Addr) (l : List ByteArray) (c : Nat) : Fact := rowF ty_string 1 (.slice A l.length c) l.length (strs l)
theorem cloneS_c (w : World) (A : Option Addr) (l : List ByteArray) (c : Nat) (hr : Rd 1 A l.length (strs l) w) (hn : l.length ≤ 1000000) :
    Con Tryd.prog n_slices_Clone_string_string #[.slice A l.length c] w [] fun v Fs => ∃ A' c', v = .slice A' l.length c' ∧ l.length ≤ c' ∧ c' ≤ maxLen ∧ Fs = [srowF A' l c'] := by
  refine con_of_sx (cx := cx_slices_Clone_string_string w (Un [])) (good_slices_Clone_string_string w (Un [])) b_slices_Clone_string_string rfl rfl (β := Va.z) [.c (.v (.slice A l.length c))] 0 [] [rdF 1 A l.length (strs l)] rfl rfl ((Sat.start rfl).rd (fun _ h => by cases h) hr) ?_
  refine BIf.mk (fun h => ?_) (fun h => ?_)
  · intro β w' hs
    have hA : A = none := by simpa using h
    subst hA
    have hl : l = [] := by
      cases l with
      | nil => rfl
      | cons x r => obtain ⟨ad, q, _⟩ := hr.2 (by simp); cases q
    subst hl
    exact (hs.nilRow ty_string 1).fin [0] ⟨none, 0, rfl, Nat.le_refl _, Nat.zero_le _, rfl⟩
  intro b
  refine ⟨0, 0, l.length, [], strs l, _, rfl, fun β w hs => hs.get 1 rfl, strs_one l, Nat.zero_add _, rfl, by rw [maxLen_eq]; omega, by show l.length * 16 ≤ _; omega, ?_⟩
  intro A' c' h1 h2 h3 β w' hs
  exact hs.fin [0] ⟨A', c', rfl, h1, h2, rfl⟩

/-! ### a touch -/
theorem touched_c (w : World) (b cb last : Nat) (m r : Value) (cs : List Value) (hlen : cs.length = 10) (hlast : last < greatN) (hm : Mem w [bkF b ty_cred_Store [m, .int .u64 (last : Int), r], bkF cb ty_cred_Cred cs]) :
    Con Tryd.prog n_cred_Store_touched #[ptr b, ptr cb] w [bkF b ty_cred_Store [m, .int .u64 (last : Int), r], bkF cb ty_cred_Cred cs] fun v Fs => v = .int .i64 0 ∧ Fs = [bkF b ty_cred_Store [m, .int .u64 ((last + 1 : Nat) : Int), r], bkF cb ty_cred_Cred (putAll cs 7 [.int .u64 ((last + 1 : Nat) : Int)])] := by
  have g := good_cred_Store_touched w (Un [bkF b ty_cred_Store [m, .int .u64 (last : Int), r], bkF cb ty_cred_Cred cs])
  refine con_of_sx (cx := cx_cred_Store_touched w (Un [bkF b ty_cred_Store [m, .int .u64 (last : Int), r], bkF cb ty_cred_Cred cs])) g b_cred_Store_touched rfl rfl (β := Va.z) [.c (.v (ptr b)), .c (.v (ptr cb))] 0 [] [bkF b ty_cred_Store [m, .int .u64 (last : Int), r], bkF cb ty_cred_Cred cs] rfl rfl (hm.sat0 rfl (fun f hf ho k hk => ⟨f, hf, hk⟩)) ?_
  refine ⟨.int .u64 (last : Int), fun β w' hs => bkc (hs.get 0 rfl) rfl, ((last + 1 : Nat) : Int), ?_, ?_⟩
  · rw [wrap_u64']; unfold greatN at hlast; omega
  refine ⟨[bkF b ty_cred_Store [m, .int .u64 ((last + 1 : Nat) : Int), r], bkF cb ty_cred_Cred cs], fun β w' hs => ?_, ?_⟩
  · exact hs.bkSet 0 (o := 1) (us := [.int .u64 ((last + 1 : Nat) : Int)]) rfl (by simp) (fun u hu => by obtain rfl := List.mem_singleton.1 hu; rfl)
  refine ⟨.int .u64 ((last + 1 : Nat) : Int), fun β w' hs => bkc (hs.get 0 rfl) rfl, ?_⟩
  refine ⟨[bkF b ty_cred_Store [m, .int .u64 ((last + 1 : Nat) : Int), r], bkF cb ty_cred_Cred (putAll cs 7 [.int .u64 ((last + 1 : Nat) : Int)])], fun β w' hs => ?_, ?_⟩
  · exact hs.bkSet 1 (o := 7) (us := [.int .u64 ((last + 1 : Nat) : Int)]) rfl (by rw [hlen]; simp) (fun u hu => by obtain rfl := List.mem_singleton.1 hu; rfl)
  intro β w' hs
  exact hs.fin [0, 1] ⟨rfl, rfl⟩
end Go.Proofs.YthkjfepbmnabkaaDoor.Sx

/- Who there is: a store opened at one user, and shut. -/
namespace Go.Proofs.YthkjfepbmnabkaaDoor.Sx
open Go
attribute [local irreducible] Calls

/-! ### facts cut anew -/
noncomputable def cx0 (w : World) (S : Nat → Prop) : Cx := ⟨Tryd.prog, w, S, 0, [], [], [], none, []⟩
theorem Sat.recut {cx : Cx} {β : Va} {n : Nat} {H : List Bk} {F : List Fact} {w : World} (h : Sat cx β n H F w) (js : List Nat) {F0 Fs : List Fact} (hre : Sat (cx0 w (Un F0)) Va.z 0 [] F0 w → Sat (cx0 w (Un F0)) Va.z 0 [] Fs w)
    (htk : takeIx F js = F0 := by rfl) (hn : nodupB js = true := by rfl) (ho : Owns F0 := by first | exact ⟨rfl, trivial⟩ | exact ⟨rfl, rfl, trivial⟩ | exact ⟨rfl, rfl, rfl, trivial⟩ | exact ⟨rfl, rfl, rfl, rfl, trivial⟩) (ho' : Owns Fs := by first | exact ⟨rfl, trivial⟩ | exact ⟨rfl, rfl, trivial⟩ | exact ⟨rfl, rfl, rfl, trivial⟩ | exact ⟨rfl, rfl, rfl, rfl, trivial⟩) :
    Sat cx β n H (Fs ++ dropIx js 0 F) w := by
  subst htk
  have hm := h.mem.take hn
  have h1 := hre (hm.sat0 rfl (fun f hf ho k hk => ⟨f, hf, hk⟩))
  refine h.swap js ho (Chg.refl _ _) h1.mem (fun f hf k hk => .inl ?_)
  rcases h1.fown f hf (ho'.mem f hf) k hk with q | q
  · exact q
  · exact absurd (h1.flt f hf k hk) (Nat.not_lt.2 q)

/-- What stands beside one user. -/
def restF (m : Nat) (ml : ML) (AB : List Ten) (mb : Nat) (mm : ML) (UV : List Crd) : Fact := sepF [mapF m ml, sepF (AB.map tenF), mapF mb mm, sepF (UV.map crdF)]
section
variable {c0 : Cx} {w : World}
theorem sto_open {S : Sto} {A B : List Ten} {T : Ten} {U V : List Crd} {c : Crd} (hT : S.ts = A ++ T :: B) (hc : T.us = U ++ c :: V) (h0 : Sat c0 Va.z 0 [] [stoF S] w) :
    Sat c0 Va.z 0 [] [bkF S.b ty_cred_Store S.vs, bkF c.b ty_cred_Cred c.vs, sepF c.parts, restF S.m S.ml (A ++ B) T.b T.m (U ++ V)] w := by
  have h1 := h0.unsep 0 rfl
  have h2 := h1.focus 2 (A := A.map tenF) (B := B.map tenF) (x := tenF T) (by show some (sepF (S.ts.map tenF)) = _; rw [hT, List.map_append, List.map_cons]) rfl
  have h3 := h2.unsep 0 rfl
  have h4 := h3.focus 1 (A := U.map crdF) (B := V.map crdF) (x := crdF c) (by show some (sepF (T.us.map crdF)) = _; rw [hc, List.map_append, List.map_cons]) rfl
  have h5 := h4.unsep 0 rfl
  have h6 := h5.sep [1, 2, 3, 4, 5] rfl ⟨rfl, rfl, rfl, rfl, rfl, trivial⟩
  have h7 := h6.sep [6, 4, 3, 2] rfl ⟨rfl, rfl, rfl, rfl, trivial⟩
  have h8 := h7.perm [3, 2, 1, 0]
  unfold restF
  rw [List.map_append, List.map_append]
  exact h8
theorem sto_shut {S S' : Sto} {A B : List Ten} {T : Ten} {U V : List Crd} {c c' : Crd} (hT : S.ts = A ++ T :: B) (hc : T.us = U ++ c :: V) (hb : c'.b = c.b) (hu : c'.user = c.user) (hS : S' = { S with ts := A ++ { T with us := U ++ c' :: V } :: B, last := S'.last, reads := S'.reads })
    (h0 : Sat c0 Va.z 0 [] [bkF S.b ty_cred_Store S'.vs, bkF c.b ty_cred_Cred c'.vs, sepF c'.parts, restF S.m S.ml (A ++ B) T.b T.m (U ++ V)] w) : Sat c0 Va.z 0 [] [stoF S'] w := by
  have e1 : T.m = (U ++ c' :: V).map fun c : Crd => (c.user, ptr c.b) := by
    unfold Ten.m
    rw [hc]
    simp [hb, hu]
  have e2 : S.ml = S'.ml := by
    unfold Sto.ml
    rw [hS, hT]
    simp
  unfold restF at h0
  rw [List.map_append, List.map_append, e1, e2] at h0
  have h1 := h0.unsep 3 rfl
  have h2 := h1.unsep 6 rfl
  have h3 := h2.sep [10, 0, 1, 2, 3, 4] rfl ⟨rfl, rfl, rfl, rfl, rfl, rfl, trivial⟩
  have h3' : Sat c0 Va.z 0 [] [crdF c', mapF S.m S'.ml, sepF (A.map tenF ++ B.map tenF), mapF T.b ((U ++ c' :: V).map fun c : Crd => (c.user, ptr c.b)), sepF (U.map crdF ++ V.map crdF), bkF S.b ty_cred_Store S'.vs] w := by
    have : crdF c' = sepF (bkF c.b ty_cred_Cred c'.vs :: c'.parts) := by unfold crdF Crd.fs; rw [hb]
    rw [this]
    exact h3
  have h4 := h3'.blur 0 4 (A := U.map crdF) (B := V.map crdF) (x := crdF c') rfl rfl rfl (by decide)
  have h5 := h4.sep [3, 0]
  have h5' : Sat c0 Va.z 0 [] [tenF { T with us := U ++ c' :: V }, mapF S.m S'.ml, sepF (A.map tenF ++ B.map tenF), bkF S.b ty_cred_Store S'.vs] w := by
    have : tenF { T with us := U ++ c' :: V } = sepF [mapF T.b ((U ++ c' :: V).map fun c : Crd => (c.user, ptr c.b)), sepF (U.map crdF ++ crdF c' :: V.map crdF)] := by
      unfold tenF Ten.m
      simp
    rw [this]
    exact h5
  have h6 := h5'.blur 0 2 (A := A.map tenF) (B := B.map tenF) (x := tenF { T with us := U ++ c' :: V }) rfl rfl rfl (by decide)
  have h7 := h6.sep [2, 1, 0]
  have : stoF S' = sepF [bkF S.b ty_cred_Store S'.vs, mapF S.m S'.ml, sepF (A.map tenF ++ tenF { T with us := U ++ c' :: V } :: B.map tenF)] := by
    unfold stoF
    rw [hS]
    simp
  rw [this]
  exact h7
end
theorem mput_end : ∀ {l : ML} {s : ByteArray} {v : Value}, mlook l s = none → mput l s v = l ++ [(s, v)]
  | [], _, _, _ => rfl
  | (k, u) :: r, s, v, h => by
    simp only [mlook] at h
    split at h
    · cases h
    · rename_i hne
      simp only [mput, if_neg hne, List.cons_append]
      rw [mput_end h]

/-! ### what is only read -/
def secF (x : SecV) (a : ASec) : Fact where
  own := false
  D := Un [bsF x.A1 a.salt, bsF x.A2 a.stored, bsF x.A3 a.server, bsF x.A4 a.ha1]
  p := SRd x a
  st := fun w w' hs h => ⟨h.n1, h.it, h.n2, h.n3, h.n4, (bsF x.A1 a.salt).st w w' (fun k hk => hs k ⟨_, by simp, hk⟩) h.r1, (bsF x.A2 a.stored).st w w' (fun k hk => hs k ⟨_, by simp, hk⟩) h.r2, (bsF x.A3 a.server).st w w' (fun k hk => hs k ⟨_, by simp, hk⟩) h.r3, (bsF x.A4 a.ha1).st w w' (fun k hk => hs k ⟨_, by simp, hk⟩) h.r4⟩

/-! ### nobody -/
def sto0 (b m : Nat) : Sto := ⟨b, m, [], 0, 0⟩
theorem cnew_c (w : World) : Con Tryd.prog n_cred_New #[] w [] fun v Fs => ∃ b m, v = ptr b ∧ Fs = [stoF (sto0 b m)] := by
  have g := good_cred_New w (Un [])
  refine con_of_sx (cx := cx_cred_New w (Un [])) g b_cred_New rfl rfl (β := Va.z) [] 0 [] [] rfl rfl (Sat.start rfl) ?_
  intro m
  intro β w' hs
  have h1 := (hs.ofBk).noMem (sepF []) ⟨fun f hf => (by cases hf), List.Pairwise.nil⟩ (fun k hk => by obtain ⟨f, hf, _⟩ := hk; cases hf)
  have h2 := h1.sep [1, 2, 0]
  exact h2.fin [0] ⟨β 0, m, rfl, rfl⟩
end Go.Proofs.YthkjfepbmnabkaaDoor.Sx

/- Who there is: tenants and users that come. -/
namespace Go.Proofs.YthkjfepbmnabkaaDoor.Sx
open Go
attribute [local irreducible] Calls

def addT (X : ASto) (t : ByteArray) : Int × ASto :=
  if plainF t.data.toList = false then (5, X) else if (aten X.ts t).isSome then (7, X) else if 8 ≤ X.ts.length then (8, X) else (0, { X with ts := X.ts ++ [(t, [])] })
/-- What an operation leaves. -/
def stoOut (S : Sto) (r : Int × ASto) (v : Value) (Fs : List Fact) : Prop := ∃ S' : Sto, v = .int .i64 r.1 ∧ S'.a = r.2 ∧ S'.b = S.b ∧ Fs = [stoF S']
theorem stoOut_same {S : Sto} {r : Int × ASto} {e : Int} (h : r = (e, S.a)) : stoOut S r (.int .i64 e) [stoF S] := ⟨S, by rw [h], by rw [h], rfl, rfl⟩
theorem ml_len (S : Sto) : S.ml.length = S.a.ts.length := by simp [Sto.ml, Sto.a]

theorem mlook_end : ∀ {l : ML} {s : ByteArray} {v : Value}, mlook l s = none → mlook (l ++ [(s, v)]) s = some v
  | [], s, v, _ => by simp [mlook]
  | (k, u) :: r, s, v, h => by
    simp only [mlook] at h
    split at h
    · cases h
    · rename_i hne
      simp only [List.cons_append, mlook, if_neg hne]
      exact mlook_end h
theorem sto_addT {c0 : Cx} {w : World} {S : Sto} {t : ByteArray} {mb : Nat} (h0 : Sat c0 Va.z 0 [] [bkF S.b ty_cred_Store S.vs, mapF S.m (S.ml ++ [(t, .map (some mb))]), sepF (S.ts.map tenF), mapF mb []] w) :
    Sat c0 Va.z 0 [] [stoF { S with ts := S.ts ++ [⟨mb, t, []⟩] }] w := by
  have h1 := h0.noMem (sepF []) ⟨fun f hf => (by cases hf), List.Pairwise.nil⟩ (fun k hk => by obtain ⟨f, hf, _⟩ := hk; cases hf)
  have h2 := h1.sep [4, 0]
  have h3 := h2.blur 0 3 (A := S.ts.map tenF) (B := []) (x := tenF ⟨mb, t, []⟩) rfl (by show some (sepF (S.ts.map tenF)) = _; rw [List.append_nil]) rfl (by decide)
  have h4 := h3.sep [1, 2, 0]
  have e : stoF { S with ts := S.ts ++ [⟨mb, t, []⟩] } = sepF [bkF S.b ty_cred_Store S.vs, mapF S.m (S.ml ++ [(t, .map (some mb))]), sepF (S.ts.map tenF ++ [tenF ⟨mb, t, []⟩])] := by
    unfold stoF Sto.ml
    simp [Sto.vs]
  rw [e]
  exact h4
theorem addTenant_c (w : World) (S : Sto) (t : ByteArray) (ht : t.size ≤ 100000) (hm : Mem w [stoF S]) : Con Tryd.prog n_cred_Store_AddTenant #[ptr S.b, .string t] w [stoF S] (stoOut S (addT S.a t)) := by
  have g := good_cred_Store_AddTenant w (Un [stoF S])
  refine con_of_sx (cx := cx_cred_Store_AddTenant w (Un [stoF S])) g b_cred_Store_AddTenant rfl rfl (β := Va.z) [.c (.v (ptr S.b)), .c (.v (.string t))] 0 [] [stoF S] rfl rfl (hm.sat0 rfl (fun f hf ho k hk => ⟨f, hf, hk⟩)) ?_
  refine call_pu (fun β w' hs => plain_c w' t ht) ?_
  generalize hp : plainF t.data.toList = bp
  cases bp with
  | false =>
    intro β w' hs
    exact hs.fin [0] (stoOut_same (by unfold addT; rw [if_pos hp]))
  | true =>
    have hp' : ¬ plainF t.data.toList = false := by rw [hp]; decide
    rcases look_ten t S.ts with ⟨A, T, B, eT, h0, h1, h2, h3, _⟩ | ⟨h1, h2, h3⟩
    · refine call_pu (v := .map (some T.b)) (fun β w' hs => by
        have h := users_c w' S t (hs.get 0 rfl) (hs.getLt 0 rfl)
        rw [h0] at h
        exact h) ?_
      intro β w' hs
      refine hs.fin [0] (stoOut_same ?_)
      unfold addT
      rw [if_neg hp', if_pos (by show (aten (S.ts.map Ten.a) t).isSome = true; rw [h3]; rfl)]
    · refine call_pu (v := .map none) (fun β w' hs => by
        have h := users_c w' S t (hs.get 0 rfl) (hs.getLt 0 rfl)
        rw [h3] at h
        exact h) ?_
      have h2' : ¬ (aten S.a.ts t).isSome = true := by show ¬ (aten (S.ts.map Ten.a) t).isSome = true; rw [h2]; simp
      have hl := ml_len S
      refine ⟨.map (some S.m), fun β w' hs => bkc (sto_bk (hs.get 0 rfl)) rfl, ?_⟩
      refine ⟨S.ml, fun β w' hs => sto_map (hs.get 0 rfl), ?_⟩
      refine BIf.dec (fun hf => ?_) (fun hf => ?_)
      · have hf0 : (8 : Int) ≤ (S.ml.length : Int) := hf
        intro β w' hs
        refine hs.fin [0] (stoOut_same ?_)
        unfold addT
        rw [if_neg hp', if_neg h2', if_pos (by omega)]
      · have hf0 : ¬ (8 : Int) ≤ (S.ml.length : Int) := hf
        refine ⟨.map (some S.m), fun β w' hs => bkc (sto_bk (hs.get 0 rfl)) rfl, ?_⟩
        intro mb
        refine ⟨[], fun _ => [stoF { S with ts := S.ts ++ [⟨mb, t, []⟩] }], fun β w' hs => ?_, fun _ => ?_⟩
        · have q1 := hs.unsep 1 rfl
          obtain ⟨w2, q2, q3⟩ := q1.mapPut g 1 rfl (t := ty_map_string_map_string_ptr_cred_Cred) t (.map (some mb))
          rw [mput_end (show mlook S.ml t = none from h1)] at q3
          exact ⟨w2, 0, q2, q3.recut [0, 1, 2, 3] sto_addT⟩
        · intro β w' hs
          refine hs.fin [0] ⟨{ S with ts := S.ts ++ [⟨mb, t, []⟩] }, ?_, ?_, rfl, rfl⟩
          · unfold addT
            rw [if_neg hp', if_neg h2', if_neg (by omega)]
            rfl
          · unfold addT
            rw [if_neg hp', if_neg h2', if_neg (by omega)]
            show ASto.mk ((S.ts ++ [(⟨mb, t, []⟩ : Ten)]).map Ten.a) _ _ = _
            rw [List.map_append]
            rfl

/-! ### a user more -/
def addU (X : ASto) (t u : ByteArray) (a : ASec) : Int × ASto :=
  match aten X.ts t with
  | none => (6, X)
  | some us => if (nameA u).2 = 0 then if rightA a = false then (4, X) else if (ausr us (nameA u).1).isSome then (7, X) else if 32 ≤ us.length then (8, X) else if greatN ≤ X.last then (8, X) else
      (0, { X with ts := atenU X.ts t (fun us => us ++ [⟨t, (nameA u).1, a, X.last + 1, [], false⟩]), last := X.last + 1 })
    else ((nameA u).2, X)
def newCrd (b : Nat) (t n : ByteArray) (y : Sec) (gen : Nat) : Crd := ⟨b, t, n, y, gen, none, 0, [], false⟩
theorem sto_addU {c0 : Cx} {w : World} {S : Sto} {A B : List Ten} {T : Ten} {n : ByteArray} {c : Crd} {last : Nat} (hT : S.ts = A ++ T :: B) (hn : c.user = n)
    (h0 : Sat c0 Va.z 0 [] [bkF S.b ty_cred_Store [.map (some S.m), .int .u64 (last : Int), .int .u64 S.reads], bkF c.b ty_cred_Cred c.vs, sepF c.parts, mapF T.b (T.m ++ [(n, ptr c.b)]), sepF (T.us.map crdF), mapF S.m S.ml, sepF ((A ++ B).map tenF)] w) :
    Sat c0 Va.z 0 [] [stoF { S with ts := A ++ { T with us := T.us ++ [c] } :: B, last := last }] w := by
  have h1 := h0.unsep 2 rfl
  have h2 := h1.sep [6, 0, 1, 2, 3, 4] rfl ⟨rfl, rfl, rfl, rfl, rfl, rfl, trivial⟩
  have h3 := h2.blur 0 3 (A := T.us.map crdF) (B := []) (x := crdF c) rfl (by show some (sepF (T.us.map crdF)) = _; rw [List.append_nil]) rfl (by decide)
  have h4 := h3.sep [2, 0]
  have e1 : tenF { T with us := T.us ++ [c] } = sepF [mapF T.b (T.m ++ [(n, ptr c.b)]), sepF (T.us.map crdF ++ [crdF c])] := by
    unfold tenF Ten.m
    simp [hn]
  have h4' : Sat c0 Va.z 0 [] [tenF { T with us := T.us ++ [c] }, bkF S.b ty_cred_Store [.map (some S.m), .int .u64 (last : Int), .int .u64 S.reads], mapF S.m S.ml, sepF (A.map tenF ++ B.map tenF)] w := by
    rw [e1, ← List.map_append]
    exact h4
  have h5 := h4'.blur 0 3 (A := A.map tenF) (B := B.map tenF) (x := tenF { T with us := T.us ++ [c] }) rfl rfl rfl (by decide)
  have h6 := h5.sep [1, 2, 0]
  have e : stoF { S with ts := A ++ { T with us := T.us ++ [c] } :: B, last := last } = sepF [bkF S.b ty_cred_Store [.map (some S.m), .int .u64 (last : Int), .int .u64 S.reads], mapF S.m S.ml, sepF (A.map tenF ++ tenF { T with us := T.us ++ [c] } :: B.map tenF)] := by
    unfold stoF Sto.ml
    rw [hT]
    simp [Sto.vs]
  rw [e]
  exact h6
theorem sto_openT {c0 : Cx} {w : World} {S : Sto} {A B : List Ten} {T : Ten} (hT : S.ts = A ++ T :: B) (h0 : Sat c0 Va.z 0 [] [stoF S] w) :
    Sat c0 Va.z 0 [] [bkF S.b ty_cred_Store S.vs, mapF T.b T.m, sepF (T.us.map crdF), mapF S.m S.ml, sepF ((A ++ B).map tenF)] w := by
  have h1 := h0.unsep 0 rfl
  have h2 := h1.focus 2 (A := A.map tenF) (B := B.map tenF) (x := tenF T) (by show some (sepF (S.ts.map tenF)) = _; rw [hT, List.map_append, List.map_cons]) rfl
  have h3 := h2.unsep 0 rfl
  have h4 := h3.perm [3, 0, 1, 4, 2]
  rw [List.map_append]
  exact h4
set_option maxHeartbeats 1000000 in
theorem add_c (w : World) (S : Sto) (t u : ByteArray) (x : SecV) (a : ASec) (hu : u.size ≤ 100000) (hz : ASz a) (hm : Mem w [stoF S, secF x a, namF]) :
    Con Tryd.prog n_cred_Store_Add #[ptr S.b, .string t, .string u, .agg x.vs.toArray] w [stoF S] (stoOut S (addU S.a t u a)) := by
  have g := good_cred_Store_Add w (Un [stoF S])
  refine con_of_sx (cx := cx_cred_Store_Add w (Un [stoF S])) g b_cred_Store_Add rfl rfl (β := Va.z) [.c (.v (ptr S.b)), .c (.v (.string t)), .c (.v (.string u)), .agg x.ss] 0 [] [stoF S, secF x a, namF] rfl rfl (hm.sat0 rfl (ownIn (Gs := [stoF S]) (fun f hf => by
    simp only [List.mem_cons, List.not_mem_nil, or_false] at hf
    rcases hf with rfl | rfl <;> rfl))) ?_
  rcases look_ten t S.ts with ⟨A, T, B, eT, h0, h1, h2, h3, h4, _⟩ | ⟨h1, h2, h3⟩
  rotate_left
  · refine call_pu (v := .map none) (fun β w' hs => by
      have h := users_c w' S t (hs.get 0 rfl) (hs.getLt 0 rfl)
      rw [h3] at h
      exact h) ?_
    intro β w' hs
    refine (hs.keepB (List.nil_sublist _)).fin [0] (stoOut_same ?_)
    unfold addU
    rw [show aten S.a.ts t = none from h2]
  refine call_pu (v := .map (some T.b)) (fun β w' hs => by
    have h := users_c w' S t (hs.get 0 rfl) (hs.getLt 0 rfl)
    rw [h0] at h
    exact h) ?_
  obtain ⟨p, e, hpe⟩ : ∃ p e, nameA u = (p, e) := ⟨_, _, rfl⟩
  have hadd : addU S.a t u a = if e = 0 then if rightA a = false then (4, S.a) else if (ausr (T.us.map Crd.a) p).isSome then (7, S.a) else if 32 ≤ (T.us.map Crd.a).length then (8, S.a) else if greatN ≤ S.last then (8, S.a) else
      (0, { S.a with ts := atenU S.a.ts t (fun us => us ++ [⟨t, p, a, S.last + 1, [], false⟩]), last := S.last + 1 }) else (e, S.a) := by
    unfold addU
    rw [show aten S.a.ts t = _ from h3, hpe]
    rfl
  refine call_pu (v := .tuple #[.string p, .int .i64 e]) (fun β w' hs => by
    have h := nameA_c w' u hu (namF_T (hs.get 2 rfl))
    rw [hpe] at h
    exact h) ?_
  refine BIf.not (BIf.dec (fun he => ?_) (fun he => ?_))
  rotate_left
  · have he0 : ¬ e = 0 := he
    rw [if_neg he0] at hadd
    intro β w' hs
    exact (hs.keepB (List.nil_sublist _)).fin [0] (stoOut_same hadd)
  have he0 : e = 0 := he
  rw [if_pos he0] at hadd
  refine call_pu (fun β w' hs => cright_c w' x) ?_
  have hri : rightN x = rightA a := (hm.fact (secF x a) (by simp)).right
  rw [hri]
  generalize hr : rightA a = br at hadd
  cases br with
  | false =>
    rw [if_pos rfl] at hadd
    intro β w' hs
    exact (hs.keepB (List.nil_sublist _)).fin [0] (stoOut_same hadd)
  | true =>
  rw [if_neg (by decide)] at hadd
  refine ⟨.pointer none, fun w => zero_ptrC w, T.m, mlook T.m p, fun β w' hs => ten_map (sto_ten (hs.get 0 rfl) eT), rfl, ?_⟩
  rcases look_crd p T.us with ⟨U, c, V, eU, q0, q1, q2, q3, _⟩ | ⟨q1, q2, q3⟩
  · rw [show mlook T.m p = _ from q2]
    rw [q3, if_pos (show (some c.a).isSome = true from rfl)] at hadd
    intro β w' hs
    exact (hs.keepB (List.nil_sublist _)).fin [0] (stoOut_same hadd)
  rw [show mlook T.m p = _ from q1]
  rw [q2, if_neg (show ¬ (none : Option ACrd).isSome = true from fun h => by cases h)] at hadd
  have hml : T.m.length = (T.us.map Crd.a).length := by simp [Ten.m]
  refine ⟨T.m, fun β w' hs => ten_map (sto_ten (hs.get 0 rfl) eT), ?_⟩
  rw [← hml] at hadd
  refine BIf.dec (fun hf => ?_) (fun hf => ?_)
  · have hf0 : (32 : Int) ≤ (T.m.length : Int) := hf
    rw [if_pos (by omega)] at hadd
    intro β w' hs
    exact (hs.keepB (List.nil_sublist _)).fin [0] (stoOut_same hadd)
  have hf0 : ¬ (32 : Int) ≤ (T.m.length : Int) := hf
  rw [if_neg (by omega)] at hadd
  refine ⟨.int .u64 (S.last : Int), fun β w' hs => bkc (sto_bk (hs.get 0 rfl)) rfl, ?_⟩
  refine BIf.dec (fun hg => ?_) (fun hg => ?_)
  · have hg0 : (9007199254740992 : Int) ≤ (S.last : Int) := hg
    rw [if_pos (by unfold greatN; omega)] at hadd
    intro β w' hs
    exact (hs.keepB (List.nil_sublist _)).fin [0] (stoOut_same hadd)
  have hg0 : ¬ (9007199254740992 : Int) ≤ (S.last : Int) := hg
  have hgl : S.last < greatN := by unfold greatN; omega
  rw [if_neg (by unfold greatN; omega)] at hadd
  refine call_con [] (fun β w' hs => scopyOf_c w' x a (hs.get 1 rfl) hz) ?_
  rintro v Fs ⟨y, hy, rfl, rfl⟩
  refine ⟨[⟨0, ty_cred_Secret, x.ss⟩], fun yb => [bkF S.b ty_cred_Store S.vs, bkF yb ty_cred_Cred (newCrd yb t p y 0).vs, sepF (newCrd yb t p y 0).parts, mapF T.b (T.m ++ [(p, ptr yb)]), sepF (T.us.map crdF), mapF S.m S.ml, sepF ((A ++ B).map tenF), secF x a, namF], fun β w' hs => ?_, fun yb => ?_⟩
  · have k1 := hs.ofBk
    have k2 := k1.noMem (strsF none []) ⟨rfl, fun q => by cases q⟩ (fun k hk => by obtain ⟨q, _⟩ := hk; cases q)
    have k3 := k2.sep [0, 5, 4, 3, 2] rfl ⟨rfl, rfl, rfl, rfl, rfl, trivial⟩
    have k4 := k3.recut [2] (sto_openT eT) rfl rfl ⟨rfl, trivial⟩ ⟨rfl, rfl, rfl, rfl, rfl, trivial⟩
    obtain ⟨w2, k5, k6⟩ := k4.mapPut g 1 rfl (t := ty_map_string_ptr_cred_Cred) p (ptr (β 1))
    rw [mput_end (show mlook T.m p = none from q1)] at k6
    exact ⟨w2, β 1, k5, k6.perm [0, 6, 5, 1, 2, 3, 4, 7, 8]⟩
  refine ⟨.pointer none, fun w => zero_ptrC w, T.m ++ [(p, ptr yb)], some (ptr yb), fun β w' hs => hs.get 3 rfl, mlook_end (show mlook T.m p = none from q1), ?_⟩
  refine call_con [0, 1] (fun β w' hs => touched_c w' S.b yb S.last (.map (some S.m)) (.int .u64 S.reads) (newCrd yb t p y 0).vs rfl hgl (hs.mem.take (js := [0, 1]) rfl)) ?_
  rintro v Fs ⟨rfl, rfl⟩
  intro β w' hs
  have k := (hs.keepB (List.nil_sublist _)).recut [0, 1, 2, 3, 4, 5, 6] (sto_addU (S := S) (c := newCrd yb t p y (S.last + 1)) (last := S.last + 1) eT rfl) rfl rfl ⟨rfl, rfl, rfl, rfl, rfl, rfl, rfl, trivial⟩
  refine k.fin [0] ⟨{ S with ts := A ++ { T with us := T.us ++ [newCrd yb t p y (S.last + 1)] } :: B, last := S.last + 1 }, by rw [hadd]; rfl, ?_, rfl, rfl⟩
  rw [hadd]
  have k8 := h4 { T with us := T.us ++ [newCrd yb t p y (S.last + 1)] } (fun us => us ++ [⟨t, p, a, S.last + 1, [], false⟩]) h1 (by
    rw [List.map_append]
    show _ ++ [Crd.a (newCrd yb t p y (S.last + 1))] = _
    congr 2
    show ACrd.mk t p y.a (S.last + 1) [] false = _
    rw [hy])
  show ASto.mk _ _ _ = ASto.mk _ _ _
  rw [k8]
  rfl
end Go.Proofs.YthkjfepbmnabkaaDoor.Sx

/- Who there is: a user found; his credential copied; revoked. -/
namespace Go.Proofs.YthkjfepbmnabkaaDoor.Sx
open Go
attribute [local irreducible] Calls

/-! ### where a user stands -/
structure At (S : Sto) (t u : ByteArray) (A : List Ten) (T : Ten) (B : List Ten) (U : List Crd) (c : Crd) (V : List Crd) : Prop where
  ten : S.ts = A ++ T :: B
  crd : T.us = U ++ c :: V
  name : T.name = t
  user : c.user = (nameA u).1
  fine : (nameA u).2 = 0
  is : aone S.a t u = some c.a
  upd : ∀ c' : Crd, ∀ f : ACrd → ACrd, c'.user = c.user → c'.a = f c.a → (A ++ { T with us := U ++ c' :: V } :: B).map Ten.a = atenU S.a.ts t (fun us => ausrU us (nameA u).1 f)
  del : (A ++ { T with us := U ++ V } :: B).map Ten.a = atenU S.a.ts t (fun us => ausrD us (nameA u).1)
  mdel : (U ++ V).map (fun c : Crd => (c.user, ptr c.b)) = Sx.mdel T.m (nameA u).1
  look : mlook S.ml t = some (.map (some T.b))
theorem usr_some {S : Sto} {t u : ByteArray} {c : Crd} (h : S.usr t u = some c) : ∃ A T B U V, At S t u A T B U c V := by
  unfold Sto.usr at h
  split at h
  · rename_i he
    rcases look_ten t S.ts with ⟨A, T, B, eT, h0, h1, h2, h3, h4, _⟩ | ⟨h1, h2, h3⟩
    · rw [h0] at h
      have h' : crdO T.us (nameA u).1 = some c := h
      rcases look_crd (nameA u).1 T.us with ⟨U, c', V, eU, q0, q1, q2, q3, q4, q5, q6, q7⟩ | ⟨q1, q2, q3⟩
      · rw [q0] at h'
        obtain rfl := Option.some.inj h'
        refine ⟨A, T, B, U, V, eT, eU, h1, q1, he, ?_, fun c1 f e1 e2 => ?_, ?_, q6, h2⟩
        · unfold aone aget
          rw [if_pos he, show aten S.a.ts t = _ from h3]
          exact q3
        · refine h4 { T with us := U ++ c1 :: V } (fun us => ausrU us (nameA u).1 f) h1 ?_
          exact q4 c1 f (e1.trans q1) e2
        · exact h4 { T with us := U ++ V } (fun us => ausrD us (nameA u).1) h1 q5
      · rw [q3] at h'; cases h'
    · rw [h3] at h; cases h
  · cases h
theorem usr_none {S : Sto} {t u : ByteArray} (h : S.usr t u = none) : aone S.a t u = none := by
  unfold Sto.usr at h
  unfold aone aget
  split at h
  · rename_i he
    rw [if_pos he]
    rcases look_ten t S.ts with ⟨A, T, B, eT, h0, h1, h2, h3, _⟩ | ⟨h1, h2, h3⟩
    · rw [h0] at h
      have h' : crdO T.us (nameA u).1 = none := h
      rw [show aten S.a.ts t = _ from h3]
      rcases look_crd (nameA u).1 T.us with ⟨U, c', V, eU, q0, q1, q2, q3, _⟩ | ⟨q1, q2, q3⟩
      · rw [q0] at h'; cases h'
      · exact q2
    · rw [show aten S.a.ts t = none from h2]; rfl
  · rename_i he
    rw [if_neg he]
theorem At.crdP {S : Sto} {t u : ByteArray} {A B : List Ten} {T : Ten} {U V : List Crd} {c : Crd} {w : World} (h : At S t u A T B U c V) (hp : (stoF S).p w) : (crdF c).p w := ten_crd (sto_ten hp h.ten) h.crd
theorem crd_sec {c : Crd} {w : World} (h : (crdF c).p w) : SRd c.sec.x c.sec.a w := Sec.rd fun f hf => h.1 f (by
  unfold Crd.fs Crd.parts
  exact List.mem_cons_of_mem _ (List.mem_cons_of_mem _ hf))
theorem crd_strs {c : Crd} {w : World} (h : (crdF c).p w) : Rd 1 c.rA c.roles.length (strs c.roles) w := h.1 (strsF c.rA c.roles) (by simp [Crd.fs, Crd.parts])

/-! ### copied -/
theorem strsRow {A : Option Addr} {l : List ByteArray} {c : Nat} {w : World} (h : (srowF A l c).p w) : (strsF A l).p w := row_rd h
theorem strsRowD {A : Option Addr} {l : List ByteArray} {c : Nat} {w : World} (h : (srowF A l c).p w) : ∀ k, (strsF A l).D k → (srowF A l c).D k := by
  rintro k ⟨hk, ad, q, rfl⟩
  have hl : 0 < l.length := by
    have : 0 < l.length * 1 := hk
    omega
  have q' : A = some ad := q
  rcases h.2 with ⟨he, h0⟩ | ⟨g, cap, cur, he, _⟩
  · omega
  · have hA : A = some ⟨g, 0, none⟩ := by injection he
    rw [q'] at hA
    obtain rfl := Option.some.inj hA
    show Value.ownBlock (.slice A l.length c) = _
    rw [q']
    rfl
/-- A row of texts, from now on to be read. -/
theorem Sat.strsRow {cx : Cx} {β : Va} {n : Nat} {H : List Bk} {F : List Fact} {w : World} (h : Sat cx β n H F w) (j : Nat) {A : Option Addr} {l : List ByteArray} {c : Nat} (hj : nth F j = some (srowF A l c)) : Sat cx β n H (putAt F j (strsF A l)) w := by
  have hp := h.get j hj
  exact h.upd hj rfl (Chg.refl _ _) (row_rd hp) (fun k hk => .inl (strsRowD hp k hk))
structure CSz (a : ACrd) : Prop where
  sec : ASz a.sec
  roles : a.roles.length ≤ 1000000
def Crd.ss (c : Crd) : List SL := .v (.string c.tenant) :: .v (.string c.user) :: (c.sec.x.ss ++ [.v (.int .u64 c.gen), .v (.slice c.rA c.roles.length c.rc), .v (.bool c.revoked)])
theorem ccopyOf_c (w : World) (c : Crd) (h1 : SRd c.sec.x c.sec.a w) (h2 : Rd 1 c.rA c.roles.length (strs c.roles) w) (hz : CSz c.a) :
    Con Tryd.prog n_cred_Cred_copyOf #[.agg c.vs.toArray] w [] fun v Fs => ∃ c' : Crd, c'.a = c.a ∧ v = .agg c'.vs.toArray ∧ Fs = [srowF c'.rA c'.roles c'.rc, c'.sec.ha1.f, c'.sec.server.f, c'.sec.stored.f, c'.sec.salt.f] := by
  have g := good_cred_Cred_copyOf w (Un [])
  refine con_of_sx (cx := cx_cred_Cred_copyOf w (Un [])) g b_cred_Cred_copyOf rfl rfl (β := Va.z) [.agg c.ss] 0 [] [oldF w] rfl rfl (old_sat rfl) ?_
  have hS : ∀ {n : Nat} {F : List Fact}, Sub (cx_cred_Cred_copyOf w (Un [])) n [⟨1, ty_cred_Cred, ti47.zero.map SL.v⟩, ⟨0, ty_cred_Cred, c.ss⟩] F [⟨0, ty_cred_Cred, c.ss⟩] [] := fun {n F} => Sub.of (List.sublist_cons_self _ _) (List.nil_sublist _)
  refine draw_rule g p_cred_Cred_copyOf_1 (by kernel_rfl) [⟨0, ty_cred_Cred, c.ss⟩] [] hS ?_
  refine call_con [] (fun β w' hs => scopyOf_c w' c.sec.x c.sec.a (h1.old (hs.get 0 rfl)) hz.sec) ?_
  rintro v Fs ⟨y, hy, rfl, rfl⟩
  refine ⟨hS, ?_⟩
  refine call_con [] (fun β w' hs => cloneS_c w' c.rA c.roles c.rc (Rd.old h2 (hs.get 4 rfl)) hz.roles) ?_
  rintro v Fs ⟨A', c', rfl, _, _, rfl⟩
  refine ⟨hS, ?_⟩
  intro β w' hs
  refine (hs.keepB (List.nil_sublist _)).fin [0, 1, 2, 3, 4] ⟨⟨0, c.tenant, c.user, y, c.gen, A', c', c.roles, c.revoked⟩, ?_, rfl, rfl⟩ rfl rfl rfl ⟨rfl, rfl, rfl, rfl, rfl, trivial⟩
  show ACrd.mk _ _ y.a _ _ _ = ACrd.mk _ _ _ _ _ _
  rw [hy]

/-! ### found -/
def stoR (S : Sto) : Sto := { S with reads := IntKind.u64.wrap (S.reads + 1) }
theorem stoR_usr (S : Sto) (t u : ByteArray) : (stoR S).usr t u = S.usr t u := rfl
theorem sto_reads {cx : Cx} {β : Va} {n : Nat} {H : List Bk} {w : World} {S : Sto} (h : Sat cx β n H [stoF S, namF] w) (r : Int) :
    ∃ w', (storeCells ((⟨S.b, 0, none⟩ : Addr).add 2) [.int .u64 r] 0).run cx.P w = .ok () w' ∧ Sat cx β n H [stoF { S with reads := r }, namF] w' := by
  have h1 := h.unsep 0 rfl
  obtain ⟨w', e1, e2⟩ := h1.bkSet 0 (o := 2) (us := [.int .u64 r]) rfl (by simp [Sto.vs]) (fun u hu => by obtain rfl := List.mem_singleton.1 hu; rfl)
  exact ⟨w', e1, e2.sep [0, 1, 2]⟩
def crd0 : Crd := ⟨0, ByteArray.empty, ByteArray.empty, ⟨⟨none, 0, []⟩, 0, ⟨none, 0, []⟩, ⟨none, 0, []⟩, ⟨none, 0, []⟩⟩, 0, none, 0, [], false⟩
def crdRows (c : Crd) : List Fact := [srowF c.rA c.roles c.rc, c.sec.ha1.f, c.sec.server.f, c.sec.stored.f, c.sec.salt.f]
def findOut (S : Sto) (t u : ByteArray) (v : Value) (Fs : List Fact) : Prop := match aone S.a t u with
  | none => v = .tuple #[.agg crd0.vs.toArray, .bool false] ∧ Fs = [stoF (stoR S)]
  | some a => ∃ c : Crd, c.a = a ∧ v = .tuple #[.agg c.vs.toArray, .bool true] ∧ Fs = crdRows c ++ [stoF (stoR S)]
theorem add2 (b o j : Nat) : ((⟨b, o, none⟩ : Addr).add j) = ⟨b, o + j, none⟩ := by rw [add_none]
theorem find_c (w : World) (S : Sto) (t u : ByteArray) (hu : u.size ≤ 100000) (hz : ∀ a, aone S.a t u = some a → CSz a) (hm : Mem w [stoF S, namF]) : Con Tryd.prog n_cred_Store_Find #[ptr S.b, .string t, .string u] w [stoF S] (findOut S t u) := by
  have g := good_cred_Store_Find w (Un [stoF S])
  refine con_of_sx (cx := cx_cred_Store_Find w (Un [stoF S])) g b_cred_Store_Find rfl rfl (β := Va.z) [.c (.v (ptr S.b)), .c (.v (.string t)), .c (.v (.string u))] 0 [] [stoF S, namF] rfl rfl (hm.sat0 rfl (ownIn (Gs := [stoF S]) (fun f hf => by
    obtain rfl := List.mem_singleton.1 hf; rfl))) ?_
  refine ⟨.int .u64 S.reads, fun β w' hs => bkc (sto_bk (hs.get 0 rfl)) rfl, IntKind.u64.wrap (S.reads + 1), rfl, ?_⟩
  refine ⟨[stoF (stoR S), namF], fun β w' hs => sto_reads hs _, ?_⟩
  cases hc : S.usr t u with
  | none =>
    refine call_pu (v := .pointer none) (fun β w' hs => by
      have h := get_c w' (stoR S) t u (hs.get 0 rfl) (hs.getLt 0 rfl) hu (namF_T (hs.get 1 rfl))
      rw [stoR_usr, hc] at h
      exact h) ?_
    intro β w' hs
    refine (hs.keepB (List.nil_sublist _)).fin [0] ?_
    unfold findOut
    rw [usr_none hc]
    exact ⟨rfl, rfl⟩
  | some c =>
    obtain ⟨A, T, B, U, V, at_⟩ := usr_some hc
    refine call_pu (v := ptr c.b) (fun β w' hs => by
      have h := get_c w' (stoR S) t u (hs.get 0 rfl) (hs.getLt 0 rfl) hu (namF_T (hs.get 1 rfl))
      rw [stoR_usr, hc] at h
      exact h) ?_
    have hcp : ∀ {w'}, (stoF (stoR S)).p w' → (crdF c).p w' := fun hp => ten_crd (sto_ten hp at_.ten) at_.crd
    refine ⟨c.vs, rfl, fun β w' hs j v hv => ?_, ?_⟩
    · rw [add2]
      exact bkc (crd_bk (hcp (hs.get 0 rfl))) (by rw [Nat.zero_add]; exact hv)
    refine call_con [] (fun β w' hs => ccopyOf_c w' c (crd_sec (hcp (hs.get 0 rfl))) (crd_strs (hcp (hs.get 0 rfl))) (hz _ at_.is)) ?_
    rintro v Fs ⟨c', hc', rfl, rfl⟩
    intro β w' hs
    refine (hs.keepB (List.nil_sublist _)).fin [0, 1, 2, 3, 4, 5] ?_ rfl rfl rfl ⟨rfl, rfl, rfl, rfl, rfl, rfl, trivial⟩
    unfold findOut
    rw [at_.is]
    exact ⟨c', hc', rfl, rfl⟩
end Go.Proofs.YthkjfepbmnabkaaDoor.Sx

/- Who there is: who is revoked, or goes. -/
namespace Go.Proofs.YthkjfepbmnabkaaDoor.Sx
open Go
attribute [local irreducible] Calls

/-! ### an entry goes -/
theorem fnd_none_del {s : ByteArray} : ∀ {es : List ME} {i : Nat}, fnd s es i = none → mdel (es.map ME.cut) s = es.map ME.cut
  | [], _, _ => rfl
  | e :: r, i, h => by
    simp only [fnd] at h
    split at h
    · cases h
    · rename_i hne
      simp only [List.map_cons, mdel, ME.cut, if_neg hne]
      exact congrArg (List.cons _) (fnd_none_del h)
theorem erase_mid {α : Type} (x : α) (c : List α) : ∀ a : List α, (a ++ x :: c).eraseIdx a.length = a ++ c
  | [] => rfl
  | y :: a => by simp [erase_mid x c a]
theorem run_del {P : Program} {t tk kt et : TypeId} (ht : P.underlying t = some (.map kt et)) (hk : P.underlying kt = some .string) {w : World} {b : Nat} {l : ML} (h : mapP b l w) (s : ByteArray) (ty : TypeId) (cst : Array Bool) :
    ∃ o, (builtin .delete #[t, tk] ty cst #[.map (some b), .string s]).run P w = .ok (.value (.tuple #[])) (w.putObj b o) ∧ mapP b (mdel l s) (w.putObj b o) := by
  obtain ⟨es, k, hb, hm⟩ := h
  have hlt : b < w.heap.size := (Array.getElem?_eq_some_iff.1 hb).1
  have hg : (getObj b).run P w = .ok (.map (es.map ME.ent).toArray k) w := MapKept.run_getObj_map hb
  have hput : ∀ o, (w.putObj b o).heap[b]? = some o := fun o => World.putObj_heap_same hlt
  cases hf : fnd s es 0 with
  | none =>
    refine ⟨.map (es.map ME.ent).toArray k, ?_, es, k, hput _, ?_, hm.inc, hm.lt⟩
    · have h1 := MapKept.run_setObj_map (P := P) (.map (es.map ME.ent).toArray k) hb
      have h2 := run_findKey (P := P) hk s es w
      rw [hf] at h2
      have h1' : (setObj b (.map (es.map ME.ent).toArray k)).run P w = .ok () (w.putObj b (.map (es.map ME.ent).toArray k)) := h1
      simp only [builtin, Builtin.delete_, Sem.run_bind, run_underlying ht, hg, run_checkKey hk, h2, Result.andThen_ok, Sem.run_pure, List.getElem?_toArray, List.getElem?_cons_zero, List.getElem?_cons_succ, h1']
    · rw [← hm.cut]; exact (fnd_none_del hf).symm
  | some q =>
    obtain ⟨j, u⟩ := q
    obtain ⟨a, c, t0, rfl, hj, _, h2⟩ := fnd_some hf
    rw [Nat.zero_add] at hj
    subst hj
    have he : ((a ++ (s, u, t0) :: c).map ME.ent).toArray.eraseIdxIfInBounds a.length = ((a ++ c).map ME.ent).toArray := by
      apply Array.ext'
      have := erase_mid (ME.ent (s, u, t0)) (c.map ME.ent) (a.map ME.ent)
      rw [List.length_map] at this
      simp [Array.eraseIdxIfInBounds, List.map_append, this]
    refine ⟨.map ((a ++ c).map ME.ent).toArray k, ?_, a ++ c, k, hput _, by rw [h2, hm.cut], ?_, fun e he' => hm.lt e ?_⟩
    · have h1 := MapKept.run_setObj_map (P := P) (.map ((a ++ c).map ME.ent).toArray k) hb
      have h3 := run_findKey (P := P) hk s (a ++ (s, u, t0) :: c) w
      rw [hf] at h3
      have h1' : (setObj b (.map ((a ++ c).map ME.ent).toArray k)).run P w = .ok () (w.putObj b (.map ((a ++ c).map ME.ent).toArray k)) := h1
      simp only [builtin, Builtin.delete_, Sem.run_bind, run_underlying ht, hg, run_checkKey hk, h3, Result.andThen_ok, Sem.run_pure, List.getElem?_toArray, List.getElem?_cons_zero, List.getElem?_cons_succ, he, h1']
    · have := hm.inc
      rw [List.map_append, List.map_cons] at this
      rw [List.map_append]
      exact this.sublist ((List.sublist_cons_self _ _).append_left _)
    · rcases List.mem_append.1 he' with q | q
      · exact List.mem_append_left _ q
      · exact List.mem_append_right _ (List.mem_cons_of_mem _ q)
theorem Sat.mapDel {cx : Cx} {β : Va} {n : Nat} {H : List Bk} {F : List Fact} {w : World} (h : Sat cx β n H F w) (g : Good cx) (j : Nat) {b : Nat} {l : ML} (hj : nth F j = some (mapF b l)) {t tk kt et : TypeId} {i ik : TI} (s : ByteArray) (ty : TypeId) (cst : Array Bool) (hi : lk cx.tt t = some i := by rfl) (hd : i.desc = .map kt et := by rfl) (hik : lk cx.tt kt = some ik := by rfl) (hdk : ik.desc = .string := by rfl) :
    ∃ w', (builtin .delete #[t, tk] ty cst #[.map (some b), .string s]).run cx.P w = .ok (.value (.tuple #[])) w' ∧ Sat cx β n H (putAt F j (mapF b (mdel l s))) w' := by
  obtain ⟨o, e1, e2⟩ := run_del (P := cx.P) (tk := tk) ((g.ti hi).real (d := .map _ _) hd rfl) ((g.ti hik).real (d := .string) hdk rfl) (h.get j hj) s ty cst
  exact ⟨_, e1, h.upd hj rfl (chg_put o) e2 (fun k hk => .inl hk)⟩

/-! ### who goes -/
theorem sto_shutT {c0 : Cx} {w : World} {S : Sto} {A B : List Ten} {T : Ten} {us : List Crd} {last : Nat} {mm : ML} (hT : S.ts = A ++ T :: B) (hn : mm = us.map fun c : Crd => (c.user, ptr c.b))
    (h0 : Sat c0 Va.z 0 [] [bkF S.b ty_cred_Store [.map (some S.m), .int .u64 (last : Int), .int .u64 S.reads], mapF T.b mm, sepF (us.map crdF), mapF S.m S.ml, sepF ((A ++ B).map tenF)] w) :
    Sat c0 Va.z 0 [] [stoF { S with ts := A ++ { T with us := us } :: B, last := last }] w := by
  subst hn
  have h4 := h0.sep [1, 2]
  have h4' : Sat c0 Va.z 0 [] [tenF { T with us := us }, bkF S.b ty_cred_Store [.map (some S.m), .int .u64 (last : Int), .int .u64 S.reads], mapF S.m S.ml, sepF (A.map tenF ++ B.map tenF)] w := by
    rw [← List.map_append]
    exact h4
  have h5 := h4'.blur 0 3 (A := A.map tenF) (B := B.map tenF) (x := tenF { T with us := us }) rfl rfl rfl (by decide)
  have h6 := h5.sep [1, 2, 0]
  have e : stoF { S with ts := A ++ { T with us := us } :: B, last := last } = sepF [bkF S.b ty_cred_Store [.map (some S.m), .int .u64 (last : Int), .int .u64 S.reads], mapF S.m S.ml, sepF (A.map tenF ++ tenF { T with us := us } :: B.map tenF)] := by
    unfold stoF Sto.ml
    rw [hT]
    simp [Sto.vs]
  rw [e]
  exact h6
def dropU (X : ASto) (t u : ByteArray) : Int × ASto := match aone X t u with
  | none => (6, X)
  | some _ => (0, { X with ts := atenU X.ts t (fun us => ausrD us (nameA u).1) })
theorem drop_c (w : World) (S : Sto) (t u : ByteArray) (hu : u.size ≤ 100000) (hm : Mem w [stoF S, namF]) : Con Tryd.prog n_cred_Store_Drop #[ptr S.b, .string t, .string u] w [stoF S] (stoOut S (dropU S.a t u)) := by
  have g := good_cred_Store_Drop w (Un [stoF S])
  refine con_of_sx (cx := cx_cred_Store_Drop w (Un [stoF S])) g b_cred_Store_Drop rfl rfl (β := Va.z) [.c (.v (ptr S.b)), .c (.v (.string t)), .c (.v (.string u))] 0 [] [stoF S, namF] rfl rfl (hm.sat0 rfl (ownIn (Gs := [stoF S]) (fun f hf => by
    obtain rfl := List.mem_singleton.1 hf; rfl))) ?_
  cases hc : S.usr t u with
  | none =>
    refine call_pu (v := .pointer none) (fun β w' hs => by
      have h := get_c w' S t u (hs.get 0 rfl) (hs.getLt 0 rfl) hu (namF_T (hs.get 1 rfl))
      rw [hc] at h
      exact h) ?_
    intro β w' hs
    refine hs.fin [0] (stoOut_same ?_)
    unfold dropU
    rw [usr_none hc]
  | some c =>
    obtain ⟨A, T, B, U, V, at_⟩ := usr_some hc
    refine call_puS (v := ptr c.b) (fun β w' hs => by
      have h := get_c w' S t u (hs.get 0 rfl) (hs.getLt 0 rfl) hu (namF_T (hs.get 1 rfl))
      rw [hc] at h
      exact h) [] [mapF S.m S.ml, sepF ((A ++ B).map tenF), mapF T.b T.m, sepF ((U ++ V).map crdF), bkF S.b ty_cred_Store S.vs, bkF c.b ty_cred_Cred c.vs, sepF c.parts, namF] (fun β w' hs => (hs.recut [0] (sto_open at_.ten at_.crd)).unsep 3 rfl) ?_
    refine draw_rule g p_cred_Store_Drop_4 (by kernel_rfl) [] [mapF S.m S.ml, bkF S.b ty_cred_Store S.vs, bkF c.b ty_cred_Cred c.vs] (subPerm [0, 4, 5]) ?_
    refine ⟨.map (some S.m), fun β w' hs => bkc (hs.get 1 rfl) rfl, ?_⟩
    refine ⟨.map none, fun w => zero_map w, S.ml, some (.map (some T.b)), fun β w' hs => hs.get 0 rfl, at_.look, ?_⟩
    refine ⟨.string c.user, fun β w' hs => bkc (hs.get 2 rfl) rfl, ?_⟩
    refine ⟨[], [mapF S.m S.ml, sepF ((A ++ B).map tenF), mapF T.b (mdel T.m c.user), sepF ((U ++ V).map crdF), bkF S.b ty_cred_Store S.vs, bkF c.b ty_cred_Cred c.vs, sepF c.parts, namF], .c (.v (.tuple #[])), fun β w' ty hs => hs.mapDel g 2 rfl (t := ty_map_string_ptr_cred_Cred) (tk := ty_string) c.user ty #[false, false], trivial, ?_⟩
    refine ⟨subPerm [0, 4, 5], ?_⟩
    intro β w' hs
    have e1 : mdel T.m c.user = (U ++ V).map fun c : Crd => (c.user, ptr c.b) := by rw [at_.mdel, at_.user]
    have k := (hs.perm [4, 2, 3, 0, 1, 7]).recut [0, 1, 2, 3, 4] (Fs := [stoF { S with ts := A ++ { T with us := U ++ V } :: B }]) (sto_shutT (us := U ++ V) (last := S.last) at_.ten e1) rfl rfl ⟨rfl, rfl, rfl, rfl, rfl, trivial⟩ ⟨rfl, trivial⟩
    refine k.fin [0] ⟨{ S with ts := A ++ { T with us := U ++ V } :: B }, ?_, ?_, rfl, rfl⟩
    · unfold dropU; rw [at_.is]; rfl
    · unfold dropU
      rw [at_.is]
      show ASto.mk _ _ _ = ASto.mk _ _ _
      rw [at_.del]
      rfl
def dropT (X : ASto) (t : ByteArray) : Int × ASto := match aten X.ts t with
  | none => (6, X)
  | some _ => (0, { X with ts := atenD X.ts t })
theorem dropTenant_c (w : World) (S : Sto) (t : ByteArray) (hm : Mem w [stoF S]) : Con Tryd.prog n_cred_Store_DropTenant #[ptr S.b, .string t] w [stoF S] (stoOut S (dropT S.a t)) := by
  have g := good_cred_Store_DropTenant w (Un [stoF S])
  refine con_of_sx (cx := cx_cred_Store_DropTenant w (Un [stoF S])) g b_cred_Store_DropTenant rfl rfl (β := Va.z) [.c (.v (ptr S.b)), .c (.v (.string t))] 0 [] [stoF S] rfl rfl (hm.sat0 rfl (fun f hf ho k hk => ⟨f, hf, hk⟩)) ?_
  rcases look_ten t S.ts with ⟨A, T, B, eT, h0, h1, h2, h3, h4, h5, h6⟩ | ⟨h1, h2, h3⟩
  · refine call_pu (v := .map (some T.b)) (fun β w' hs => by
      have h := users_c w' S t (hs.get 0 rfl) (hs.getLt 0 rfl)
      rw [h0] at h
      exact h) ?_
    refine ⟨.map (some S.m), fun β w' hs => bkc (sto_bk (hs.get 0 rfl)) rfl, ?_⟩
    refine ⟨[], [stoF { S with ts := A ++ B }], .c (.v (.tuple #[])), fun β w' ty hs => ?_, trivial, ?_⟩
    · have k1 := hs.unsep 0 rfl
      obtain ⟨w2, k2, k3⟩ := k1.mapDel g 1 rfl (t := ty_map_string_map_string_ptr_cred_Cred) (tk := ty_string) t ty #[false, false]
      have k4 := k3.focus 2 (A := A.map tenF) (B := B.map tenF) (x := tenF T) (by show some (sepF (S.ts.map tenF)) = _; rw [eT, List.map_append, List.map_cons]) rfl
      have k5 := k4.sep [2, 3, 1]
      have e : stoF { S with ts := A ++ B } = sepF [bkF S.b ty_cred_Store S.vs, mapF S.m (mdel S.ml t), sepF (A.map tenF ++ B.map tenF)] := by
        unfold stoF Sto.ml
        rw [← h6]
        simp [Sto.vs]
      rw [e]
      exact ⟨w2, k2, k5.perm [0]⟩
    · intro β w' hs
      refine hs.fin [0] ⟨{ S with ts := A ++ B }, ?_, ?_, rfl, rfl⟩
      · unfold dropT; rw [show aten S.a.ts t = _ from h3]; rfl
      · unfold dropT
        rw [show aten S.a.ts t = _ from h3]
        show ASto.mk _ _ _ = ASto.mk _ _ _
        rw [h5]
        rfl
  · refine call_pu (v := .map none) (fun β w' hs => by
      have h := users_c w' S t (hs.get 0 rfl) (hs.getLt 0 rfl)
      rw [h3] at h
      exact h) ?_
    intro β w' hs
    refine hs.fin [0] (stoOut_same ?_)
    unfold dropT
    rw [show aten S.a.ts t = none from h2]

/-! ### who is revoked -/
def updU (X : ASto) (t u : ByteArray) (f : ACrd → ACrd) : ASto := { X with ts := atenU X.ts t (fun us => ausrU us (nameA u).1 fun c => { f c with gen := X.last + 1 }), last := X.last + 1 }
def revU (X : ASto) (t u : ByteArray) (b : Bool) : Int × ASto := match aone X t u with
  | none => (6, X)
  | some _ => if greatN ≤ X.last then (8, X) else (0, updU X t u fun c => { c with revoked := b })
/-- The store, shut behind a touch. -/
theorem sto_touched {c0 : Cx} {w : World} {S : Sto} {t u : ByteArray} {A B : List Ten} {T : Ten} {U V : List Crd} {c c' : Crd} (at_ : At S t u A T B U c V) (hb : c'.b = c.b) (hu : c'.user = c.user)
    (h0 : Sat c0 Va.z 0 [] [bkF S.b ty_cred_Store [.map (some S.m), .int .u64 ((S.last + 1 : Nat) : Int), .int .u64 S.reads], bkF c.b ty_cred_Cred c'.vs, sepF c'.parts, restF S.m S.ml (A ++ B) T.b T.m (U ++ V)] w) :
    Sat c0 Va.z 0 [] [stoF { S with ts := A ++ { T with us := U ++ c' :: V } :: B, last := S.last + 1 }] w :=
  sto_shut (S := S) (S' := { S with ts := A ++ { T with us := U ++ c' :: V } :: B, last := S.last + 1 }) at_.ten at_.crd hb hu rfl h0
theorem revoke_c (w : World) (S : Sto) (t u : ByteArray) (b : Bool) (hu : u.size ≤ 100000) (hm : Mem w [stoF S, namF]) : Con Tryd.prog n_cred_Store_Revoke #[ptr S.b, .string t, .string u, .bool b] w [stoF S] (stoOut S (revU S.a t u b)) := by
  have g := good_cred_Store_Revoke w (Un [stoF S])
  refine con_of_sx (cx := cx_cred_Store_Revoke w (Un [stoF S])) g b_cred_Store_Revoke rfl rfl (β := Va.z) [.c (.v (ptr S.b)), .c (.v (.string t)), .c (.v (.string u)), .c (.v (.bool b))] 0 [] [stoF S, namF] rfl rfl (hm.sat0 rfl (ownIn (Gs := [stoF S]) (fun f hf => by
    obtain rfl := List.mem_singleton.1 hf; rfl))) ?_
  cases hc : S.usr t u with
  | none =>
    refine call_pu (v := .pointer none) (fun β w' hs => by
      have h := get_c w' S t u (hs.get 0 rfl) (hs.getLt 0 rfl) hu (namF_T (hs.get 1 rfl))
      rw [hc] at h
      exact h) ?_
    intro β w' hs
    refine hs.fin [0] (stoOut_same ?_)
    unfold revU
    rw [usr_none hc]
  | some c =>
    obtain ⟨A, T, B, U, V, at_⟩ := usr_some hc
    refine call_pu (v := ptr c.b) (fun β w' hs => by
      have h := get_c w' S t u (hs.get 0 rfl) (hs.getLt 0 rfl) hu (namF_T (hs.get 1 rfl))
      rw [hc] at h
      exact h) ?_
    refine ⟨.int .u64 (S.last : Int), fun β w' hs => bkc (sto_bk (hs.get 0 rfl)) rfl, ?_⟩
    refine BIf.dec (fun hg => ?_) (fun hg => ?_)
    · have hg0 : (9007199254740992 : Int) ≤ (S.last : Int) := hg
      intro β w' hs
      refine hs.fin [0] (stoOut_same ?_)
      unfold revU
      rw [at_.is]
      exact if_pos (by unfold greatN; show _ ≤ S.last; omega)
    · have hg0 : ¬ (9007199254740992 : Int) ≤ (S.last : Int) := hg
      have hgl : S.last < greatN := by unfold greatN; omega
      refine ⟨[bkF S.b ty_cred_Store S.vs, bkF c.b ty_cred_Cred { c with revoked := b }.vs, sepF c.parts, restF S.m S.ml (A ++ B) T.b T.m (U ++ V), namF], fun β w' hs => ?_, ?_⟩
      · have k1 := hs.recut [0] (sto_open at_.ten at_.crd)
        exact k1.bkSet 1 (o := 9) (us := [.bool b]) rfl (Nat.le_refl 10) (fun u hu => by obtain rfl := List.mem_singleton.1 hu; rfl)
      refine call_con [0, 1] (fun β w' hs => touched_c w' S.b c.b S.last (.map (some S.m)) (.int .u64 S.reads) (Crd.vs { c with revoked := b }) rfl hgl (by have h := hs.mem.take (js := [0, 1]) rfl; exact h)) ?_
      rintro v Fs ⟨rfl, rfl⟩
      intro β w' hs
      have k := hs.recut [0, 1, 2, 3] (sto_touched (c' := { c with revoked := b, gen := S.last + 1 }) at_ rfl rfl)
      refine k.fin [0] ⟨{ S with ts := A ++ { T with us := U ++ { c with revoked := b, gen := S.last + 1 } :: V } :: B, last := S.last + 1 }, ?_, ?_, rfl, rfl⟩
      · unfold revU
        rw [at_.is]
        show _ = Value.int .i64 (if greatN ≤ S.last then (8, S.a) else (0, _)).1
        rw [if_neg (Nat.not_le.2 hgl)]
        rfl
      · unfold revU
        rw [at_.is]
        show _ = (if greatN ≤ S.last then (8, S.a) else (0, updU S.a t u fun c => { c with revoked := b })).2
        rw [if_neg (Nat.not_le.2 hgl)]
        show ASto.mk _ _ _ = ASto.mk _ _ _
        rw [at_.upd { c with revoked := b, gen := S.last + 1 } (fun c => { c with revoked := b, gen := S.last + 1 }) rfl rfl]
        rfl
end Go.Proofs.YthkjfepbmnabkaaDoor.Sx

/- Who there is: a role more, behind all others. -/
namespace Go.Proofs.YthkjfepbmnabkaaDoor.Sx
open Go
attribute [local irreducible] Calls

theorem isNaN_c (w : World) (x : ByteArray) : Pu Tryd.prog n_cmp_isNaN_string #[.string x] w (.bool false) := by
  have g := good_cmp_isNaN_string w (Un [])
  refine con_of_sx (cx := cx_cmp_isNaN_string w (Un [])) g b_cmp_isNaN_string rfl rfl (β := Va.z) [.c (.v (.string x))] 0 [] [] rfl rfl (Sat.start rfl) ?_
  intro β w' hs
  refine hs.fin [] ⟨?_, rfl⟩
  show Value.bool (!decide (x = x)) = _
  simp
theorem less_c (w : World) (x y : ByteArray) : Pu Tryd.prog n_cmp_Less_string #[.string x, .string y] w (.bool (Op.bytesLess x.toList y.toList)) := by
  have g := good_cmp_Less_string w (Un [])
  refine con_of_sx (cx := cx_cmp_Less_string w (Un [])) g b_cmp_Less_string rfl rfl (β := Va.z) [.c (.v (.string x)), .c (.v (.string y))] 0 [] [] rfl rfl (Sat.start rfl) ?_
  refine call_pu (fun β w' hs => isNaN_c w' x) ?_
  intro β w' hs
  exact hs.fin [] ⟨rfl, rfl⟩
/-- Behind all that are less. -/
theorem bsE_c (w : World) (A : Option Addr) (l : List ByteArray) (c : Nat) (x : ByteArray) (hr : Rd 1 A l.length (strs l) w) (hn : l.length ≤ 1000000) (hall : ∀ y ∈ l, Op.bytesLess y.toList x.toList = true) :
    Pu Tryd.prog n_slices_BinarySearch_string_string #[.slice A l.length c, .string x] w (.tuple #[.int .i64 (l.length : Int), .bool false]) := by
  have g := good_slices_BinarySearch_string_string w (Un [])
  refine con_of_sx (cx := cx_slices_BinarySearch_string_string w (Un [])) g b_slices_BinarySearch_string_string rfl rfl (β := Va.z) [.c (.v (.slice A l.length c)), .c (.v (.string x))] 0 [] [oldF w] rfl rfl (old_sat rfl) ?_
  refine loop_rule 0 (fun i : Nat => [(0, .c (.v (.slice A l.length c))), (1, .c (.v (.string x))), (6, .c (.v (.int .i64 l.length))), (7, .c (.v (.int .i64 (i : Int)))), (8, .c (.v (.int .i64 l.length)))]) (fun _ => []) (fun _ => [oldF w])
    (fun i => i ≤ l.length) (fun i => l.length - i) 0 (Nat.zero_le _) (Ent.same ⟨rfl, rfl, rfl, rfl, rfl, trivial⟩ rfl) g ?_
  intro i hi
  refine BIf.dec (fun hlt => ?_) (fun hge => ?_)
  · have hlt0 : (i : Int) < l.length := hlt
    have hil : i < l.length := by omega
    have hh : (i + l.length) / 2 < l.length := by omega
    obtain ⟨y, hy, hym⟩ := at_lt hh
    refine ⟨((i + l.length : Nat) : Int), by rw [wrap_i64 (by omega) (by omega)]; omega, ((i + l.length : Nat) : Int), by rw [wrap_u64']; omega, by decide, (((i + l.length) / 2 : Nat) : Int), ?_, (((i + l.length) / 2 : Nat) : Int), by rw [wrap_i64 (by omega) (by omega)], ?_⟩
    · show Int.fdiv ((i + l.length : Nat) : Int) (2 ^ (min (Int.toNat 1) 64)) = _
      rw [Int.fdiv_eq_ediv_of_nonneg _ (by decide)]
      have : (2 : Int) ^ (min (Int.toNat 1) 64) = 2 := by decide
      rw [this]
      omega
    obtain ⟨ad, hA, _⟩ := hr.2 (by omega)
    refine ⟨ad, (i + l.length) / 2, hA, rfl, hh, .string y, fun β w' hs => ?_, ?_⟩
    · have h := Rd.old hr (hs.get 0 rfl)
      rw [hA] at h
      exact Rd.cell1 h (by simp [strs, hy])
    refine call_pu (v := .bool true) (fun β w' hs => by
      have h := less_c w' y x
      rw [hall y hym] at h
      exact h) ?_
    refine ⟨(((i + l.length) / 2 + 1 : Nat) : Int), by rw [wrap_i64 (by omega) (by omega)]; rfl, ?_⟩
    exact ⟨(i + l.length) / 2 + 1, hh, by omega, Ent.same ⟨rfl, rfl, rfl, rfl, rfl, trivial⟩ rfl⟩
  · have hge0 : ¬ (i : Int) < l.length := hge
    obtain rfl : i = l.length := by omega
    conv => whnf
    generalize h1 : decide ((l.length : Int) < (l.length : Int)) = b1
    cases b1 with
    | true => exact absurd (of_decide_eq_true h1) (by omega)
    | false =>
      intro β w' hs
      exact hs.fin [] ⟨rfl, rfl⟩
/-- A text more, at the end. -/
theorem insE_c (w : World) (A B : Option Addr) (l : List ByteArray) (c cb : Nat) (x : ByteArray) (hn : l.length ≤ 1000000) (hlc : l.length ≤ c) (hm : Mem w [srowF A l c, rowF ty_string 1 (.slice B 1 cb) 1 [.string x]]) :
    Con Tryd.prog n_slices_Insert_string_string #[.slice A l.length c, .int .i64 l.length, .slice B 1 cb] w [srowF A l c, rowF ty_string 1 (.slice B 1 cb) 1 [.string x]] fun v Fs => ∃ A' c', v = .slice A' (l ++ [x]).length c' ∧ (l ++ [x]).length ≤ c' ∧ Fs = [srowF A' (l ++ [x]) c'] := by
  have g := good_slices_Insert_string_string w (Un [srowF A l c, rowF ty_string 1 (.slice B 1 cb) 1 [.string x]])
  refine con_of_sx (cx := cx_slices_Insert_string_string w (Un [srowF A l c, rowF ty_string 1 (.slice B 1 cb) 1 [.string x]])) g b_slices_Insert_string_string rfl rfl (β := Va.z) [.c (.v (.slice A l.length c)), .c (.v (.int .i64 l.length)), .c (.v (.slice B 1 cb))] 0 [] [srowF A l c, rowF ty_string 1 (.slice B 1 cb) 1 [.string x]] rfl rfl (hm.sat0 rfl (fun f hf ho k hk => ⟨f, hf, hk⟩)) ?_
  refine ⟨c, l.length, l.length, 0, c - l.length, _, rfl, rfl, rfl, Nat.le_refl c, hlc, Nat.le_refl _, Nat.sub_self _, rfl, rfl, ?_⟩
  refine BIf.dec (fun _ => ?_) (fun h => absurd rfl h)
  refine ⟨0, l.length, (l ++ [x]).length, strs l, [.string x], strs (l ++ [x]), rfl, fun β w' hs => row_rd (hs.get 1 rfl), fun u hu => by obtain rfl := List.mem_singleton.1 hu; rfl, by simp, by simp [strs], by rw [maxLen_eq, List.length_append]; simp only [List.length_singleton]; omega, by show (l ++ [x]).length * 16 ≤ _; rw [List.length_append]; simp only [List.length_singleton]; omega, ?_⟩
  intro A' c' h1 h2 h3 β w' hs
  exact hs.fin [0] ⟨A', c', rfl, h1, rfl⟩
def grantE (X : ASto) (t u role : ByteArray) : Int × ASto := match aone X t u with
  | none => (6, X)
  | some c => if plainF role.data.toList = false then (5, X) else if 8 ≤ c.roles.length then (8, X) else if greatN ≤ X.last then (8, X) else (0, updU X t u fun c => { c with roles := c.roles ++ [role] })
theorem grantE_c (w : World) (S : Sto) (t u role : ByteArray) (hu : u.size ≤ 100000) (hro : role.size ≤ 100000) (hz : ∀ a, aone S.a t u = some a → a.roles.length ≤ 1000 ∧ ∀ r ∈ a.roles, Op.bytesLess r.toList role.toList = true) (hm : Mem w [stoF S, namF]) :
    Con Tryd.prog n_cred_Store_Grant #[ptr S.b, .string t, .string u, .string role] w [stoF S] (stoOut S (grantE S.a t u role)) := by
  have g := good_cred_Store_Grant w (Un [stoF S])
  refine con_of_sx (cx := cx_cred_Store_Grant w (Un [stoF S])) g b_cred_Store_Grant rfl rfl (β := Va.z) [.c (.v (ptr S.b)), .c (.v (.string t)), .c (.v (.string u)), .c (.v (.string role))] 0 [] [stoF S, namF] rfl rfl (hm.sat0 rfl (ownIn (Gs := [stoF S]) (fun f hf => by
    obtain rfl := List.mem_singleton.1 hf; rfl))) ?_
  cases hc : S.usr t u with
  | none =>
    refine call_pu (v := .pointer none) (fun β w' hs => by
      have h := get_c w' S t u (hs.get 0 rfl) (hs.getLt 0 rfl) hu (namF_T (hs.get 1 rfl))
      rw [hc] at h
      exact h) ?_
    intro β w' hs
    refine hs.fin [0] (stoOut_same ?_)
    unfold grantE
    rw [usr_none hc]
  | some c =>
    obtain ⟨A, T, B, U, V, at_⟩ := usr_some hc
    obtain ⟨hrl, hall⟩ := hz _ at_.is
    have hrl' : c.roles.length ≤ 1000 := hrl
    refine call_pu (v := ptr c.b) (fun β w' hs => by
      have h := get_c w' S t u (hs.get 0 rfl) (hs.getLt 0 rfl) hu (namF_T (hs.get 1 rfl))
      rw [hc] at h
      exact h) ?_
    have hgr : grantE S.a t u role = if plainF role.data.toList = false then (5, S.a) else if 8 ≤ c.roles.length then (8, S.a) else if greatN ≤ S.last then (8, S.a) else (0, updU S.a t u fun c => { c with roles := c.roles ++ [role] }) := by
      unfold grantE
      rw [at_.is]
      rfl
    refine call_pu (fun β w' hs => plain_c w' role hro) ?_
    generalize hp : plainF role.data.toList = bp at hgr
    cases bp with
    | false =>
      rw [if_pos rfl] at hgr
      intro β w' hs
      exact hs.fin [0] (stoOut_same hgr)
    | true =>
    rw [if_neg (by decide)] at hgr
    have hcell : ∀ {β : Va} {n : Nat} {H : List Bk} {F : List Fact} {w' : World}, Sat (cx_cred_Store_Grant w (Un [stoF S])) β n H F w' → ∀ j, nth F j = some (stoF S) → w'.cell? ⟨c.b, 8, none⟩ = some (.slice c.rA c.roles.length c.rc) := fun hs j hj => bkc (crd_bk (at_.crdP (hs.get j hj))) rfl
    refine ⟨.slice c.rA c.roles.length c.rc, fun β w' hs => hcell hs 0 rfl, ?_⟩
    refine call_pu (fun β w' hs => bsE_c w' c.rA c.roles c.rc role (crd_strs (at_.crdP (hs.get 0 rfl))) (by omega) hall) ?_
    refine ⟨.slice c.rA c.roles.length c.rc, fun β w' hs => hcell hs 0 rfl, ?_⟩
    refine BIf.dec (fun hf => ?_) (fun hf => ?_)
    · have hf0 : (8 : Int) ≤ (c.roles.length : Int) := hf
      rw [if_pos (by omega)] at hgr
      intro β w' hs
      exact hs.fin [0] (stoOut_same hgr)
    have hf0 : ¬ (8 : Int) ≤ (c.roles.length : Int) := hf
    rw [if_neg (by omega)] at hgr
    refine ⟨.int .u64 (S.last : Int), fun β w' hs => bkc (sto_bk (hs.get 0 rfl)) rfl, ?_⟩
    refine BIf.dec (fun hg => ?_) (fun hg => ?_)
    · have hg0 : (9007199254740992 : Int) ≤ (S.last : Int) := hg
      rw [if_pos (by unfold greatN; omega)] at hgr
      intro β w' hs
      exact hs.fin [0] (stoOut_same hgr)
    have hg0 : ¬ (9007199254740992 : Int) ≤ (S.last : Int) := hg
    have hgl : S.last < greatN := by unfold greatN; omega
    rw [if_neg (Nat.not_le.2 hgl)] at hgr
    refine ⟨.slice c.rA c.roles.length c.rc, fun β w' hs => hcell hs 0 rfl, ?_⟩
    refine call_con [] (fun β w' hs => cloneS_c w' c.rA c.roles c.rc (crd_strs (at_.crdP (hs.get 0 rfl))) (by omega)) ?_
    rintro v Fs ⟨A1, c1, rfl, hc1, _, rfl⟩
    intro b1
    refine call_con [1, 0] (fun β w' hs => insE_c w' A1 (some ⟨b1, 0, none⟩) c.roles c1 1 role (by omega) hc1 (hs.mem.take (js := [1, 0]) rfl)) ?_
    rintro v Fs ⟨A2, c2, rfl, hc2, rfl⟩
    obtain ⟨cr, hcr⟩ : ∃ cr : Crd, cr = { c with rA := A2, rc := c2, roles := c.roles ++ [role] } := ⟨_, rfl⟩
    have hvs : putAll c.vs 8 [.slice A2 (c.roles ++ [role]).length c2] = cr.vs := by rw [hcr]; rfl
    refine ⟨[bkF S.b ty_cred_Store S.vs, bkF c.b ty_cred_Cred cr.vs, sepF c.parts, restF S.m S.ml (A ++ B) T.b T.m (U ++ V), srowF A2 (c.roles ++ [role]) c2, namF], fun β w' hs => ?_, ?_⟩
    · have k1 := hs.recut [1] (sto_open at_.ten at_.crd)
      have k2 := k1.bkSet 1 (o := 8) (us := [.slice A2 (c.roles ++ [role]).length c2]) rfl (show 8 + 1 ≤ 10 by decide) (fun u hu => by obtain rfl := List.mem_singleton.1 hu; rfl)
      rw [hvs] at k2
      exact k2
    refine call_con [0, 1] (fun β w' hs => touched_c w' S.b c.b S.last (.map (some S.m)) (.int .u64 S.reads) cr.vs rfl hgl (by have h := hs.mem.take (js := [0, 1]) rfl; exact h)) ?_
    rintro v Fs ⟨rfl, rfl⟩
    intro β w' hs
    have k1 := hs.unsep 2 rfl
    have k2 := k1.strsRow 8 rfl
    have k3 := k2.sep [8, 1, 2, 3, 4] rfl ⟨rfl, rfl, rfl, rfl, rfl, trivial⟩
    have k4 := k3.perm [2, 3, 0, 4, 5]
    have k := k4.recut [0, 1, 2, 3] (Fs := [stoF { S with ts := A ++ { T with us := U ++ { cr with gen := S.last + 1 } :: V } :: B, last := S.last + 1 }]) (fun h => sto_touched (c' := { cr with gen := S.last + 1 }) at_ (by rw [hcr]) (by rw [hcr]) (by rw [hcr] at h ⊢; exact h)) rfl rfl ⟨rfl, rfl, rfl, rfl, trivial⟩ ⟨rfl, trivial⟩
    refine k.fin [0] ⟨{ S with ts := A ++ { T with us := U ++ { cr with gen := S.last + 1 } :: V } :: B, last := S.last + 1 }, ?_, ?_, rfl, rfl⟩
    · rw [hgr]; rfl
    · rw [hgr]
      show ASto.mk _ _ _ = ASto.mk _ _ _
      rw [at_.upd { cr with gen := S.last + 1 } (fun c => { c with roles := c.roles ++ [role], gen := S.last + 1 }) (by rw [hcr]) (by rw [hcr]; rfl)]
      rfl
end Go.Proofs.YthkjfepbmnabkaaDoor.Sx

/- Who there is: a secret of noughts; the example. -/
namespace Go.Proofs.YthkjfepbmnabkaaDoor.Sx
open Go
attribute [local irreducible] Calls

def zeros32 : List UInt8 := List.replicate 32 0
def plainS : ASec := ⟨[1], 1, zeros32, zeros32, zeros32⟩
def plainX (b0 b1 b2 b3 : Nat) : SecV := ⟨some ⟨b0, 0, none⟩, 1, 1, 1, some ⟨b1, 0, none⟩, 32, 32, some ⟨b2, 0, none⟩, 32, 32, some ⟨b3, 0, none⟩, 32, 32⟩
noncomputable def rowZ (b : Nat) : Fact := rowF ty_uint8 1 (.slice (some ⟨b, 0, none⟩) 32 32) 32 (repl ti5.zero 32)
def row1 (b : Nat) : Fact := rowF ty_uint8 1 (.slice (some ⟨b, 0, none⟩) 1 1) 1 [.int .u8 1]
set_option maxRecDepth 100000 in
set_option maxHeartbeats 4000000 in
theorem plain14_c (w : World) : Con Tryd.prog n_ostiarylaw14_plain #[] w [] fun v Fs => ∃ b0 b1 b2 b3, v = .agg (plainX b0 b1 b2 b3).vs.toArray ∧ Fs = [rowZ b3, rowZ b2, rowZ b1, row1 b0] := by
  have g := good_ostiarylaw14_plain w (Un [])
  refine con_of_sx (cx := cx_ostiarylaw14_plain w (Un [])) g b_ostiarylaw14_plain rfl rfl (β := Va.z) [] 0 [] [] rfl rfl (Sat.start rfl) ?_
  have hS : ∀ {n : Nat} {H : List Bk} {F : List Fact}, Sub (cx_ostiarylaw14_plain w (Un [])) n H F [] [] := fun {n H F} => Sub.of (List.nil_sublist _) (List.nil_sublist _)
  refine draw_rule g p_ostiarylaw14_plain_1 (by kernel_rfl) [] [] hS ?_
  exact ⟨fun b0 => ⟨hS, ⟨⟨32, 32, rfl, rfl, Nat.le_refl _, by decide, by decide, fun b1 => ⟨hS, ⟨⟨32, 32, rfl, rfl, Nat.le_refl _, by decide, by decide, fun b2 => ⟨hS, ⟨32, 32, rfl, rfl, Nat.le_refl _, by decide, by decide, fun b3 => ⟨hS, ⟨hS, fun β w' hs => (hs.keepB (List.nil_sublist _)).fin [0, 1, 2, 3] ⟨b0, b1, b2, b3, rfl, rfl⟩ rfl rfl rfl ⟨rfl, rfl, rfl, rfl, trivial⟩⟩⟩⟩⟩⟩, ⟨32, 32, rfl, rfl, Nat.le_refl _, by decide, by decide, fun b3 => ⟨hS, ⟨32, 32, rfl, rfl, Nat.le_refl _, by decide, by decide, fun b2 => ⟨hS, ⟨hS, fun β w' hs => (hs.keepB (List.nil_sublist _)).fin [1, 0, 2, 3] ⟨b0, b1, b2, b3, rfl, rfl⟩ rfl rfl rfl ⟨rfl, rfl, rfl, rfl, trivial⟩⟩⟩⟩⟩⟩⟩⟩⟩, ⟨⟨32, 32, rfl, rfl, Nat.le_refl _, by decide, by decide, fun b2 => ⟨hS, ⟨⟨32, 32, rfl, rfl, Nat.le_refl _, by decide, by decide, fun b1 => ⟨hS, ⟨32, 32, rfl, rfl, Nat.le_refl _, by decide, by decide, fun b3 => ⟨hS, ⟨hS, fun β w' hs => (hs.keepB (List.nil_sublist _)).fin [0, 2, 1, 3] ⟨b0, b1, b2, b3, rfl, rfl⟩ rfl rfl rfl ⟨rfl, rfl, rfl, rfl, trivial⟩⟩⟩⟩⟩⟩, ⟨32, 32, rfl, rfl, Nat.le_refl _, by decide, by decide, fun b3 => ⟨hS, ⟨32, 32, rfl, rfl, Nat.le_refl _, by decide, by decide, fun b1 => ⟨hS, ⟨hS, fun β w' hs => (hs.keepB (List.nil_sublist _)).fin [1, 2, 0, 3] ⟨b0, b1, b2, b3, rfl, rfl⟩ rfl rfl rfl ⟨rfl, rfl, rfl, rfl, trivial⟩⟩⟩⟩⟩⟩⟩⟩⟩, ⟨32, 32, rfl, rfl, Nat.le_refl _, by decide, by decide, fun b3 => ⟨hS, ⟨⟨32, 32, rfl, rfl, Nat.le_refl _, by decide, by decide, fun b1 => ⟨hS, ⟨32, 32, rfl, rfl, Nat.le_refl _, by decide, by decide, fun b2 => ⟨hS, ⟨hS, fun β w' hs => (hs.keepB (List.nil_sublist _)).fin [2, 0, 1, 3] ⟨b0, b1, b2, b3, rfl, rfl⟩ rfl rfl rfl ⟨rfl, rfl, rfl, rfl, trivial⟩⟩⟩⟩⟩⟩, ⟨32, 32, rfl, rfl, Nat.le_refl _, by decide, by decide, fun b2 => ⟨hS, ⟨32, 32, rfl, rfl, Nat.le_refl _, by decide, by decide, fun b1 => ⟨hS, ⟨hS, fun β w' hs => (hs.keepB (List.nil_sublist _)).fin [2, 1, 0, 3] ⟨b0, b1, b2, b3, rfl, rfl⟩ rfl rfl rfl ⟨rfl, rfl, rfl, rfl, trivial⟩⟩⟩⟩⟩⟩⟩⟩⟩⟩⟩⟩, ⟨⟨32, 32, rfl, rfl, Nat.le_refl _, by decide, by decide, fun b1 => ⟨hS, ⟨fun b0 => ⟨hS, ⟨⟨32, 32, rfl, rfl, Nat.le_refl _, by decide, by decide, fun b2 => ⟨hS, ⟨32, 32, rfl, rfl, Nat.le_refl _, by decide, by decide, fun b3 => ⟨hS, ⟨hS, fun β w' hs => (hs.keepB (List.nil_sublist _)).fin [0, 1, 3, 2] ⟨b0, b1, b2, b3, rfl, rfl⟩ rfl rfl rfl ⟨rfl, rfl, rfl, rfl, trivial⟩⟩⟩⟩⟩⟩, ⟨32, 32, rfl, rfl, Nat.le_refl _, by decide, by decide, fun b3 => ⟨hS, ⟨32, 32, rfl, rfl, Nat.le_refl _, by decide, by decide, fun b2 => ⟨hS, ⟨hS, fun β w' hs => (hs.keepB (List.nil_sublist _)).fin [1, 0, 3, 2] ⟨b0, b1, b2, b3, rfl, rfl⟩ rfl rfl rfl ⟨rfl, rfl, rfl, rfl, trivial⟩⟩⟩⟩⟩⟩⟩⟩, ⟨⟨32, 32, rfl, rfl, Nat.le_refl _, by decide, by decide, fun b2 => ⟨hS, ⟨fun b0 => ⟨hS, ⟨32, 32, rfl, rfl, Nat.le_refl _, by decide, by decide, fun b3 => ⟨hS, ⟨hS, fun β w' hs => (hs.keepB (List.nil_sublist _)).fin [0, 2, 3, 1] ⟨b0, b1, b2, b3, rfl, rfl⟩ rfl rfl rfl ⟨rfl, rfl, rfl, rfl, trivial⟩⟩⟩⟩⟩, ⟨32, 32, rfl, rfl, Nat.le_refl _, by decide, by decide, fun b3 => ⟨hS, fun b0 => ⟨hS, ⟨hS, fun β w' hs => (hs.keepB (List.nil_sublist _)).fin [1, 2, 3, 0] ⟨b0, b1, b2, b3, rfl, rfl⟩ rfl rfl rfl ⟨rfl, rfl, rfl, rfl, trivial⟩⟩⟩⟩⟩⟩⟩⟩, ⟨32, 32, rfl, rfl, Nat.le_refl _, by decide, by decide, fun b3 => ⟨hS, ⟨fun b0 => ⟨hS, ⟨32, 32, rfl, rfl, Nat.le_refl _, by decide, by decide, fun b2 => ⟨hS, ⟨hS, fun β w' hs => (hs.keepB (List.nil_sublist _)).fin [2, 0, 3, 1] ⟨b0, b1, b2, b3, rfl, rfl⟩ rfl rfl rfl ⟨rfl, rfl, rfl, rfl, trivial⟩⟩⟩⟩⟩, ⟨32, 32, rfl, rfl, Nat.le_refl _, by decide, by decide, fun b2 => ⟨hS, fun b0 => ⟨hS, ⟨hS, fun β w' hs => (hs.keepB (List.nil_sublist _)).fin [2, 1, 3, 0] ⟨b0, b1, b2, b3, rfl, rfl⟩ rfl rfl rfl ⟨rfl, rfl, rfl, rfl, trivial⟩⟩⟩⟩⟩⟩⟩⟩⟩⟩⟩⟩, ⟨⟨32, 32, rfl, rfl, Nat.le_refl _, by decide, by decide, fun b2 => ⟨hS, ⟨fun b0 => ⟨hS, ⟨⟨32, 32, rfl, rfl, Nat.le_refl _, by decide, by decide, fun b1 => ⟨hS, ⟨32, 32, rfl, rfl, Nat.le_refl _, by decide, by decide, fun b3 => ⟨hS, ⟨hS, fun β w' hs => (hs.keepB (List.nil_sublist _)).fin [0, 3, 1, 2] ⟨b0, b1, b2, b3, rfl, rfl⟩ rfl rfl rfl ⟨rfl, rfl, rfl, rfl, trivial⟩⟩⟩⟩⟩⟩, ⟨32, 32, rfl, rfl, Nat.le_refl _, by decide, by decide, fun b3 => ⟨hS, ⟨32, 32, rfl, rfl, Nat.le_refl _, by decide, by decide, fun b1 => ⟨hS, ⟨hS, fun β w' hs => (hs.keepB (List.nil_sublist _)).fin [1, 3, 0, 2] ⟨b0, b1, b2, b3, rfl, rfl⟩ rfl rfl rfl ⟨rfl, rfl, rfl, rfl, trivial⟩⟩⟩⟩⟩⟩⟩⟩, ⟨⟨32, 32, rfl, rfl, Nat.le_refl _, by decide, by decide, fun b1 => ⟨hS, ⟨fun b0 => ⟨hS, ⟨32, 32, rfl, rfl, Nat.le_refl _, by decide, by decide, fun b3 => ⟨hS, ⟨hS, fun β w' hs => (hs.keepB (List.nil_sublist _)).fin [0, 3, 2, 1] ⟨b0, b1, b2, b3, rfl, rfl⟩ rfl rfl rfl ⟨rfl, rfl, rfl, rfl, trivial⟩⟩⟩⟩⟩, ⟨32, 32, rfl, rfl, Nat.le_refl _, by decide, by decide, fun b3 => ⟨hS, fun b0 => ⟨hS, ⟨hS, fun β w' hs => (hs.keepB (List.nil_sublist _)).fin [1, 3, 2, 0] ⟨b0, b1, b2, b3, rfl, rfl⟩ rfl rfl rfl ⟨rfl, rfl, rfl, rfl, trivial⟩⟩⟩⟩⟩⟩⟩⟩, ⟨32, 32, rfl, rfl, Nat.le_refl _, by decide, by decide, fun b3 => ⟨hS, ⟨fun b0 => ⟨hS, ⟨32, 32, rfl, rfl, Nat.le_refl _, by decide, by decide, fun b1 => ⟨hS, ⟨hS, fun β w' hs => (hs.keepB (List.nil_sublist _)).fin [2, 3, 0, 1] ⟨b0, b1, b2, b3, rfl, rfl⟩ rfl rfl rfl ⟨rfl, rfl, rfl, rfl, trivial⟩⟩⟩⟩⟩, ⟨32, 32, rfl, rfl, Nat.le_refl _, by decide, by decide, fun b1 => ⟨hS, fun b0 => ⟨hS, ⟨hS, fun β w' hs => (hs.keepB (List.nil_sublist _)).fin [2, 3, 1, 0] ⟨b0, b1, b2, b3, rfl, rfl⟩ rfl rfl rfl ⟨rfl, rfl, rfl, rfl, trivial⟩⟩⟩⟩⟩⟩⟩⟩⟩⟩⟩⟩, ⟨32, 32, rfl, rfl, Nat.le_refl _, by decide, by decide, fun b3 => ⟨hS, ⟨fun b0 => ⟨hS, ⟨⟨32, 32, rfl, rfl, Nat.le_refl _, by decide, by decide, fun b1 => ⟨hS, ⟨32, 32, rfl, rfl, Nat.le_refl _, by decide, by decide, fun b2 => ⟨hS, ⟨hS, fun β w' hs => (hs.keepB (List.nil_sublist _)).fin [3, 0, 1, 2] ⟨b0, b1, b2, b3, rfl, rfl⟩ rfl rfl rfl ⟨rfl, rfl, rfl, rfl, trivial⟩⟩⟩⟩⟩⟩, ⟨32, 32, rfl, rfl, Nat.le_refl _, by decide, by decide, fun b2 => ⟨hS, ⟨32, 32, rfl, rfl, Nat.le_refl _, by decide, by decide, fun b1 => ⟨hS, ⟨hS, fun β w' hs => (hs.keepB (List.nil_sublist _)).fin [3, 1, 0, 2] ⟨b0, b1, b2, b3, rfl, rfl⟩ rfl rfl rfl ⟨rfl, rfl, rfl, rfl, trivial⟩⟩⟩⟩⟩⟩⟩⟩, ⟨⟨32, 32, rfl, rfl, Nat.le_refl _, by decide, by decide, fun b1 => ⟨hS, ⟨fun b0 => ⟨hS, ⟨32, 32, rfl, rfl, Nat.le_refl _, by decide, by decide, fun b2 => ⟨hS, ⟨hS, fun β w' hs => (hs.keepB (List.nil_sublist _)).fin [3, 0, 2, 1] ⟨b0, b1, b2, b3, rfl, rfl⟩ rfl rfl rfl ⟨rfl, rfl, rfl, rfl, trivial⟩⟩⟩⟩⟩, ⟨32, 32, rfl, rfl, Nat.le_refl _, by decide, by decide, fun b2 => ⟨hS, fun b0 => ⟨hS, ⟨hS, fun β w' hs => (hs.keepB (List.nil_sublist _)).fin [3, 1, 2, 0] ⟨b0, b1, b2, b3, rfl, rfl⟩ rfl rfl rfl ⟨rfl, rfl, rfl, rfl, trivial⟩⟩⟩⟩⟩⟩⟩⟩, ⟨32, 32, rfl, rfl, Nat.le_refl _, by decide, by decide, fun b2 => ⟨hS, ⟨fun b0 => ⟨hS, ⟨32, 32, rfl, rfl, Nat.le_refl _, by decide, by decide, fun b1 => ⟨hS, ⟨hS, fun β w' hs => (hs.keepB (List.nil_sublist _)).fin [3, 2, 0, 1] ⟨b0, b1, b2, b3, rfl, rfl⟩ rfl rfl rfl ⟨rfl, rfl, rfl, rfl, trivial⟩⟩⟩⟩⟩, ⟨32, 32, rfl, rfl, Nat.le_refl _, by decide, by decide, fun b1 => ⟨hS, fun b0 => ⟨hS, ⟨hS, fun β w' hs => (hs.keepB (List.nil_sublist _)).fin [3, 2, 1, 0] ⟨b0, b1, b2, b3, rfl, rfl⟩ rfl rfl rfl ⟨rfl, rfl, rfl, rfl, trivial⟩⟩⟩⟩⟩⟩⟩⟩⟩⟩⟩⟩⟩⟩⟩
end Go.Proofs.YthkjfepbmnabkaaDoor.Sx

/- Who there is: the document's example. -/
namespace Go.Proofs.YthkjfepbmnabkaaDoor.Sx
open Go
attribute [local irreducible] Calls

theorem stoOut_eq {S : Sto} {r : Int × ASto} {v : Value} {Fs : List Fact} {e : Int} {X : ASto} (h : stoOut S r v Fs) (hr : r = (e, X)) : ∃ S', v = .int .i64 e ∧ S'.a = X ∧ S'.b = S.b ∧ Fs = [stoF S'] := by
  subst hr; exact h
def tT : ByteArray := ⟨#[116]⟩
def annT : ByteArray := ⟨#[97, 110, 110]⟩
def devT : ByteArray := ⟨#[100, 101, 118]⟩
def X0 : ASto := ⟨[], 0, 0⟩
def X1 : ASto := ⟨[(tT, [])], 0, 0⟩
def annC (gen : Nat) (roles : List ByteArray) (r : Bool) : ACrd := ⟨tT, annT, plainS, gen, roles, r⟩
def X2 (gen : Nat) (roles : List ByteArray) (r : Bool) (reads : Int) : ASto := ⟨[(tT, [annC gen roles r])], gen, reads⟩
theorem name_ann : nameA annT = (annT, 0) := by decide +kernel
theorem e1 : addT X0 tT = (0, X1) := by rfl
theorem e2 : addU X1 tT annT plainS = (0, X2 1 [] false 0) := by
  unfold addU
  rw [name_ann]
  rfl
theorem aone_X2 (gen : Nat) (roles : List ByteArray) (r : Bool) (reads : Int) : aone (X2 gen roles r reads) tT annT = some (annC gen roles r) := by
  unfold aone
  rw [name_ann]
  rfl
theorem e3 : grantE (X2 1 [] false 0) tT annT devT = (0, X2 2 [devT] false 0) := by
  unfold grantE
  rw [aone_X2]
  unfold updU
  rw [name_ann]
  rfl
theorem e4 : revU (X2 2 [devT] false 1) tT annT true = (0, X2 3 [devT] true 1) := by
  unfold revU
  rw [aone_X2]
  unfold updU
  rw [name_ann]
  rfl
theorem plainSz : ASz plainS := ⟨by decide, by decide, by decide, by decide⟩
/-- The secret of noughts, to be read. -/
theorem Sat.plainF {cx : Cx} {β : Va} {n : Nat} {H : List Bk} {w : World} {F : List Fact} {b0 b1 b2 b3 : Nat} (h : Sat cx β n H F w) (js : List Nat) (hj : takeIx F js = [rowZ b3, rowZ b2, rowZ b1, row1 b0]) (hn : nodupB js = true := by rfl) : Sat cx β n H (secF (plainX b0 b1 b2 b3) plainS :: dropIx js 0 F) w := by
  refine h.fuse js (secF (plainX b0 b1 b2 b3) plainS) (fun w hm => ?_) (fun k hk => ?_) hn (by rw [hj]; exact ⟨rfl, rfl, rfl, rfl, trivial⟩)
  · rw [hj] at hm
    exact ⟨rfl, rfl, rfl, rfl, rfl, row_rd (hm.fact (row1 b0) (by simp)), row_rd (hm.fact (rowZ b1) (by simp)), row_rd (hm.fact (rowZ b2) (by simp)), row_rd (hm.fact (rowZ b3) (by simp))⟩
  · rw [hj]
    obtain ⟨f, hf, hk⟩ := hk
    simp only [List.mem_cons, List.not_mem_nil, or_false] at hf
    rcases hf with rfl | rfl | rfl | rfl
    all_goals
      obtain ⟨_, ad, q, rfl⟩ := hk
      obtain rfl := Option.some.inj q
    · exact ⟨row1 b0, by simp, rfl⟩
    · exact ⟨rowZ b1, by simp, rfl⟩
    · exact ⟨rowZ b2, by simp, rfl⟩
    · exact ⟨rowZ b3, by simp, rfl⟩
def curA (X : ASto) (t u : ByteArray) (n : Int) : Bool := match aone X t u with
  | some a => !a.revoked && decide ((a.gen : Int) = n)
  | none => false
theorem current_a (w : World) (S : Sto) (t u : ByteArray) (n : Int) (h : (stoF S).p w) (hl : ∀ k, (stoF S).D k → k < w.heap.size) (hu : u.size ≤ 100000) (hn : NamT w) :
    Pu Tryd.prog n_cred_Store_Current #[ptr S.b, .string t, .string u, .int .u64 n] w (.bool (curA S.a t u n)) := by
  have h1 := current_c w S t u n h hl hu hn
  have e : curA S.a t u n = (match S.usr t u with | some c => !c.revoked && decide ((c.gen : Int) = n) | none => false) := by
    unfold curA
    cases hc : S.usr t u with
    | none => rw [usr_none hc]
    | some c =>
      obtain ⟨A, T, B, U, V, at_⟩ := usr_some hc
      rw [at_.is]
      rfl
  rw [e]
  exact h1
theorem stoR_a {S : Sto} {gen : Nat} {roles : List ByteArray} {r : Bool} (h : S.a = X2 gen roles r 0) : (stoR S).a = X2 gen roles r 1 := by
  show ASto.mk S.a.ts S.a.last (IntKind.u64.wrap (S.a.reads + 1)) = _
  rw [h]
  rfl
theorem cur_X2 (gen : Nat) (roles : List ByteArray) (r : Bool) (reads n : Int) : curA (X2 gen roles r reads) tT annT n = (!r && decide ((gen : Int) = n)) := by
  unfold curA
  rw [aone_X2]
  rfl
set_option maxHeartbeats 2000000 in
theorem awake14_c (w : World) (hm : Mem w [namF]) : Pu Tryd.prog n_ostiarylaw14_awake #[] w (.bool true) := by
  have g := good_ostiarylaw14_awake w (Un [])
  refine con_of_sx (cx := cx_ostiarylaw14_awake w (Un [])) g b_ostiarylaw14_awake rfl rfl (β := Va.z) [] 0 [] [namF] rfl rfl (hm.sat0 rfl (ownIn (Gs := []) (fun f hf => by
    obtain rfl := List.mem_singleton.1 hf; rfl))) ?_
  refine call_con [] (fun β w' hs => cnew_c w') ?_
  rintro v Fs ⟨b, m, rfl, rfl⟩
  refine call_con [0] (fun β w' hs => addTenant_c w' (sto0 b m) tT (by decide) (hs.mem.take (js := [0]) rfl)) ?_
  intro v Fs h
  obtain ⟨S1, rfl, a1, b1, rfl⟩ := stoOut_eq h e1
  replace b1 : S1.b = b := b1
  refine call_con [] (fun β w' hs => plain14_c w') ?_
  rintro v Fs ⟨c0, c1, c2, c3, rfl, rfl⟩
  refine call_conS [4] (R := stoOut S1 (0, X2 1 [] false 0)) (fun β w' hs => by
    have k := (hs.plainF [0, 1, 2, 3] rfl).perm [1, 0, 2]
    have h := add_c w' S1 tT annT (plainX c0 c1 c2 c3) plainS (by decide) plainSz k.mem
    rw [b1, a1, e2] at h
    exact h) ?_
  rintro v Fs ⟨S2, rfl, a2, b2, rfl⟩
  refine ⟨[], [stoF S2, namF], fun β w' hs => hs.perm [0, 5], ?_⟩
  replace b2 : S2.b = b := b2.trans b1
  replace a2 : S2.a = X2 1 [] false 0 := a2
  refine call_con [0] (R := stoOut S2 (0, X2 2 [devT] false 0)) (fun β w' hs => by
    have h := grantE_c w' S2 tT annT devT (by decide) (by decide) (fun a ha => by
      rw [a2, aone_X2] at ha
      obtain rfl := Option.some.inj ha
      exact ⟨by decide, fun r hr => by cases hr⟩) hs.mem
    rw [b2, a2, e3] at h
    exact h) ?_
  rintro v Fs ⟨S3, rfl, a3, b3, rfl⟩
  replace b3 : S3.b = b := b3.trans b2
  replace a3 : S3.a = X2 2 [devT] false 0 := a3
  refine call_con [0] (R := findOut S3 tT annT) (fun β w' hs => by
    have h := find_c w' S3 tT annT (by decide) (fun a ha => by
      rw [a3, aone_X2] at ha
      obtain rfl := Option.some.inj ha
      exact ⟨plainSz, by decide⟩) hs.mem
    rw [b3] at h
    exact h) ?_
  intro v Fs h
  unfold findOut at h
  rw [a3, aone_X2] at h
  obtain ⟨c, hc, rfl, rfl⟩ := h
  have a5 := stoR_a a3
  have b5 : (stoR S3).b = b := b3
  obtain ⟨cb, ct, cu, csec, cg, cA, cc, cr, cv⟩ := c
  simp only [Crd.a, annC, ACrd.mk.injEq] at hc
  obtain ⟨rfl, rfl, hsec, rfl, rfl, rfl⟩ := hc
  refine call_pu (v := .bool true) (fun β w' hs => by
    have h := current_a w' (stoR S3) tT annT 2 (hs.get 5 rfl) (hs.getLt 5 rfl) (by decide) (namF_T (hs.get 6 rfl))
    rw [a5, b5, cur_X2] at h
    exact h) ?_
  refine call_con [5] (R := stoOut (stoR S3) (0, X2 3 [devT] true 1)) (fun β w' hs => by
    have h := revoke_c w' (stoR S3) tT annT true (by decide) (hs.mem.take (js := [5, 6]) rfl)
    rw [b5, a5, e4] at h
    exact h) ?_
  rintro v Fs ⟨S4, rfl, a4, b4, rfl⟩
  replace b4 : S4.b = b := b4.trans b5
  replace a4 : S4.a = X2 3 [devT] true 1 := a4
  refine call_pu (v := .int .u64 3) (fun β w' hs => by
    have h := last_c w' S4 (hs.get 0 rfl) (hs.getLt 0 rfl)
    rw [b4, show S4.last = 3 from congrArg ASto.last a4] at h
    exact h) ?_
  refine call_pu (v := .bool false) (fun β w' hs => by
    have h := current_a w' S4 tT annT 3 (hs.get 0 rfl) (hs.getLt 0 rfl) (by decide) (namF_T (hs.get 6 rfl))
    rw [a4, b4, cur_X2] at h
    exact h) ?_
  intro β w' hs
  exact (hs.keepB (List.nil_sublist _)).fin [] ⟨rfl, rfl⟩
end Go.Proofs.YthkjfepbmnabkaaDoor.Sx

/-
  DERIVED: THE SHELF's CONTRACTS AT THIS DUMP, IN PLAIN WORDS (tools/lay-plain.mjs out of 'TrydIter.lean', which tools/lay-shelf.mjs wrote): THE SAME DECLARATIONS UNDER THE SAME NAMES: 'import', 'namespace', 'open', 'def', 'theorem' AND NOTHING ELSE: no command of the shelf's: FOR A HAND-IN. Each laying: the table of numbers ('.._ren') and one theorem, a field a fact of the dump's own or the kernel's comparison; each contract: ONE APPLICATION.
-/
namespace Go.Proofs
open Go.Shelf
def Tryd.keys103_ren : Go.Shelf.Ren := ⟨fun | 7 => 103 | 10 => 127 | n => n, fun | 23 => 84 | 26 => 9 | 3 => 88 | 28 => 111 | 0 => 0 | 27 => 110 | 33 => 87 | 4 => 4 | n => n, fun | n => n⟩
theorem Tryd.keys103 : Go.Proofs.SlLaysZ.n7 Tryd.prog Tryd.keys103_ren := {
  mixed := by kernel_rfl
  f7 := ⟨Tryd.f103.name, by decide, Tryd.func103.trans (congrArg some (by kernel_rfl))⟩
  f10 := ⟨Tryd.f127.name, by decide, Tryd.func127.trans (congrArg some (by kernel_rfl))⟩
  t0 := Tryd.underlying0
  a0 := Tryd.isAgg0
  z0 := Tryd.sizeOf0
  v0 := Tryd.zeroValue0
  t4 := Tryd.underlying4
  a4 := Tryd.isAgg4
  z4 := Tryd.sizeOf4
  v4 := Tryd.zeroValue4
  t23 := Tryd.underlying84
  a23 := Tryd.isAgg84
  z23 := Tryd.sizeOf84
  v23 := Tryd.zeroValue84
  t26 := Tryd.underlying9
  a26 := Tryd.isAgg9
  z26 := Tryd.sizeOf9
  v26 := Tryd.zeroValue9
  t27 := Tryd.underlying110
  a27 := Tryd.isAgg110
  z27 := Tryd.sizeOf110
  v27 := Tryd.zeroValue110
  t28 := Tryd.underlying111
  a28 := Tryd.isAgg111
  z28 := Tryd.sizeOf111
  v28 := Tryd.zeroValue111
  t33 := Tryd.underlying87
  a33 := Tryd.isAgg87
  z33 := Tryd.sizeOf87
  v33 := Tryd.zeroValue87 }
def Tryd.sorted102_ren : Go.Shelf.Ren := ⟨fun | 6 => 102 | 8 => 69 | 9 => 126 | 11 => 100 | 13 => 140 | 12 => 142 | 23 => 155 | 24 => 156 | 14 => 157 | 15 => 158 | 16 => 159 | 17 => 160 | 18 => 161 | 19 => 162 | 20 => 96 | 21 => 163 | 22 => 164 | 25 => 173 | 26 => 168 | 27 => 169 | 28 => 174 | 29 => 175 | 30 => 124 | 31 => 177 | n => n, fun | 26 => 9 | 28 => 111 | 24 => 45 | 0 => 0 | 3 => 3 | 37 => 99 | 48 => 53 | 50 => 44 | 4 => 4 | 40 => 209 | 39 => 208 | 45 => 55 | 5 => 5 | 9 => 9 | 51 => 224 | 55 => 227 | 57 => 232 | 58 => 233 | 33 => 87 | n => n, fun | n => n⟩
theorem Tryd.sorted102 : Go.Proofs.SlLaysZ.n6 Tryd.prog Tryd.sorted102_ren := {
  mixed := by kernel_rfl
  f6 := ⟨Tryd.f102.name, by decide, Tryd.func102.trans (congrArg some (by kernel_rfl))⟩
  f8 := ⟨Tryd.f69.name, by decide, Tryd.func69.trans (congrArg some (by kernel_rfl))⟩
  f11 := ⟨Tryd.f100.name, by decide, Tryd.func100.trans (congrArg some (by kernel_rfl))⟩
  t0 := Tryd.underlying0
  a0 := Tryd.isAgg0
  z0 := Tryd.sizeOf0
  v0 := Tryd.zeroValue0
  t24 := Tryd.underlying45
  a24 := Tryd.isAgg45
  z24 := Tryd.sizeOf45
  v24 := Tryd.zeroValue45
  t26 := Tryd.underlying9
  a26 := Tryd.isAgg9
  z26 := Tryd.sizeOf9
  v26 := Tryd.zeroValue9
  t28 := Tryd.underlying111
  a28 := Tryd.isAgg111
  z28 := Tryd.sizeOf111
  v28 := Tryd.zeroValue111
  i26 := by kernel_rfl }
def Tryd.sort126_ren : Go.Shelf.Ren := ⟨fun | 6 => 126 | 8 => 140 | 9 => 142 | 19 => 155 | 20 => 156 | 21 => 157 | 22 => 158 | 23 => 159 | 24 => 160 | 25 => 161 | 26 => 162 | 27 => 96 | 28 => 163 | 29 => 164 | 36 => 173 | 31 => 168 | 32 => 169 | 37 => 174 | 38 => 175 | 39 => 124 | 41 => 177 | n => n, fun | 27 => 45 | 29 => 9 | 3 => 3 | 32 => 99 | 26 => 45 | 0 => 0 | 44 => 53 | 46 => 44 | 4 => 4 | 36 => 209 | 35 => 208 | 41 => 55 | 5 => 5 | 9 => 9 | 53 => 224 | 57 => 227 | 63 => 232 | 64 => 233 | n => n, fun | n => n⟩
theorem Tryd.sort126 : Go.Proofs.SlLaysM.n6 Tryd.prog Tryd.sort126_ren := {
  mixed := by kernel_rfl
  f6 := ⟨Tryd.f126.name, by decide, Tryd.func126.trans (congrArg some (by kernel_rfl))⟩
  f8 := Tryd.func140.trans (congrArg some (by kernel_rfl))
  f9 := ⟨Tryd.f142.name, by decide, Tryd.func142.trans (congrArg some (by kernel_rfl))⟩
  f19 := Tryd.func155.trans (congrArg some (by kernel_rfl))
  f20 := Tryd.func156.trans (congrArg some (by kernel_rfl))
  f21 := ⟨Tryd.f157.name, by decide, Tryd.func157.trans (congrArg some (by kernel_rfl))⟩
  f22 := ⟨Tryd.f158.name, by decide, Tryd.func158.trans (congrArg some (by kernel_rfl))⟩
  f23 := ⟨Tryd.f159.name, by decide, Tryd.func159.trans (congrArg some (by kernel_rfl))⟩
  f24 := ⟨Tryd.f160.name, by decide, Tryd.func160.trans (congrArg some (by kernel_rfl))⟩
  f25 := ⟨Tryd.f161.name, by decide, Tryd.func161.trans (congrArg some (by kernel_rfl))⟩
  f26 := ⟨Tryd.f162.name, by decide, Tryd.func162.trans (congrArg some (by kernel_rfl))⟩
  f27 := ⟨Tryd.f96.name, by decide, Tryd.func96.trans (congrArg some (by kernel_rfl))⟩
  f28 := ⟨Tryd.f163.name, by decide, Tryd.func163.trans (congrArg some (by kernel_rfl))⟩
  f29 := ⟨Tryd.f164.name, by decide, Tryd.func164.trans (congrArg some (by kernel_rfl))⟩
  f31 := Tryd.func168.trans (congrArg some (by kernel_rfl))
  f32 := Tryd.func169.trans (congrArg some (by kernel_rfl))
  f36 := ⟨Tryd.f173.name, by decide, Tryd.func173.trans (congrArg some (by kernel_rfl))⟩
  f37 := ⟨Tryd.f174.name, by decide, Tryd.func174.trans (congrArg some (by kernel_rfl))⟩
  f38 := ⟨Tryd.f175.name, by decide, Tryd.func175.trans (congrArg some (by kernel_rfl))⟩
  f39 := ⟨Tryd.f124.name, by decide, Tryd.func124.trans (congrArg some (by kernel_rfl))⟩
  f41 := ⟨Tryd.f177.name, by decide, Tryd.func177.trans (congrArg some (by kernel_rfl))⟩
  t0 := Tryd.underlying0
  a0 := Tryd.isAgg0
  z0 := Tryd.sizeOf0
  v0 := Tryd.zeroValue0
  t3 := Tryd.underlying3
  a3 := Tryd.isAgg3
  z3 := Tryd.sizeOf3
  v3 := Tryd.zeroValue3
  t4 := Tryd.underlying4
  a4 := Tryd.isAgg4
  z4 := Tryd.sizeOf4
  v4 := Tryd.zeroValue4
  t5 := Tryd.underlying5
  a5 := Tryd.isAgg5
  z5 := Tryd.sizeOf5
  v5 := Tryd.zeroValue5
  t9 := Tryd.underlying9
  a9 := Tryd.isAgg9
  z9 := Tryd.sizeOf9
  v9 := Tryd.zeroValue9
  t26 := Tryd.underlying45
  a26 := Tryd.isAgg45
  z26 := Tryd.sizeOf45
  v26 := Tryd.zeroValue45
  t27 := Tryd.underlying45
  a27 := Tryd.isAgg45
  z27 := Tryd.sizeOf45
  v27 := Tryd.zeroValue45
  t29 := Tryd.underlying9
  a29 := Tryd.isAgg9
  z29 := Tryd.sizeOf9
  v29 := Tryd.zeroValue9
  t32 := Tryd.underlying99
  a32 := Tryd.isAgg99
  z32 := Tryd.sizeOf99
  v32 := Tryd.zeroValue99
  t35 := Tryd.underlying208
  a35 := Tryd.isAgg208
  z35 := Tryd.sizeOf208
  v35 := Tryd.zeroValue208
  t36 := Tryd.underlying209
  a36 := Tryd.isAgg209
  z36 := Tryd.sizeOf209
  v36 := Tryd.zeroValue209
  t41 := Tryd.underlying55
  a41 := Tryd.isAgg55
  z41 := Tryd.sizeOf55
  v41 := Tryd.zeroValue55
  t44 := Tryd.underlying53
  a44 := Tryd.isAgg53
  z44 := Tryd.sizeOf53
  v44 := Tryd.zeroValue53
  t46 := Tryd.underlying44
  a46 := Tryd.isAgg44
  z46 := Tryd.sizeOf44
  v46 := Tryd.zeroValue44
  t53 := Tryd.underlying224
  a53 := Tryd.isAgg224
  z53 := Tryd.sizeOf224
  v53 := Tryd.zeroValue224
  t57 := Tryd.underlying227
  a57 := Tryd.isAgg227
  z57 := Tryd.sizeOf227
  v57 := Tryd.zeroValue227
  t63 := Tryd.underlying232
  a63 := Tryd.isAgg232
  z63 := Tryd.sizeOf232
  v63 := Tryd.zeroValue232
  t64 := Tryd.underlying233
  a64 := Tryd.isAgg233
  z64 := Tryd.sizeOf233
  v64 := Tryd.zeroValue233 }
def Tryd.keys106_ren : Go.Shelf.Ren := ⟨fun | 7 => 106 | 10 => 128 | n => n, fun | 23 => 88 | 26 => 9 | 3 => 92 | 28 => 111 | 0 => 0 | 27 => 110 | 33 => 87 | 4 => 4 | n => n, fun | n => n⟩
theorem Tryd.keys106 : Go.Proofs.SlLaysZ.n7 Tryd.prog Tryd.keys106_ren := {
  mixed := by kernel_rfl
  f7 := ⟨Tryd.f106.name, by decide, Tryd.func106.trans (congrArg some (by kernel_rfl))⟩
  f10 := ⟨Tryd.f128.name, by decide, Tryd.func128.trans (congrArg some (by kernel_rfl))⟩
  t0 := Tryd.underlying0
  a0 := Tryd.isAgg0
  z0 := Tryd.sizeOf0
  v0 := Tryd.zeroValue0
  t4 := Tryd.underlying4
  a4 := Tryd.isAgg4
  z4 := Tryd.sizeOf4
  v4 := Tryd.zeroValue4
  t23 := Tryd.underlying88
  a23 := Tryd.isAgg88
  z23 := Tryd.sizeOf88
  v23 := Tryd.zeroValue88
  t26 := Tryd.underlying9
  a26 := Tryd.isAgg9
  z26 := Tryd.sizeOf9
  v26 := Tryd.zeroValue9
  t27 := Tryd.underlying110
  a27 := Tryd.isAgg110
  z27 := Tryd.sizeOf110
  v27 := Tryd.zeroValue110
  t28 := Tryd.underlying111
  a28 := Tryd.isAgg111
  z28 := Tryd.sizeOf111
  v28 := Tryd.zeroValue111
  t33 := Tryd.underlying87
  a33 := Tryd.isAgg87
  z33 := Tryd.sizeOf87
  v33 := Tryd.zeroValue87 }
end Go.Proofs

/- A map's keys, sorted: the library's contract as ours. -/
namespace Go.Proofs.YthkjfepbmnabkaaDoor.Sx
open Go
attribute [local irreducible] Calls

def noRd : Value → Option (DataW Unit × List MemPlace) := fun _ => some (.nil, [])
/-- Texts, sorted. -/
def sortK (l : List ByteArray) : List ByteArray := ((l.map fun s => s.data.toList).mergeSort leB).map mkS
theorem sortK_len (l : List ByteArray) : (sortK l).length = l.length := by simp [sortK]
theorem rd_ent {P : Program} {k : TypeId} (hk : P.underlying k = some .string) {e : ME} (hs : e.1.size ≤ maxLen) : WideElems.rd P k noRd e.ent = some (.string e.1.data.toList, .nil) := by
  unfold WideElems.rd
  have h : keyOf P k e.ent.key = some (.string e.1.data.toList) := by
    simp [ME.ent, keyOf, hk, mapKey, hs]
  rw [h]
  rfl
structure KeysOk (l : ML) : Prop where
  nodup : (l.map (·.1)).Nodup
  size : ∀ p ∈ l, p.1.size ≤ maxLen
theorem owns_map {P : Program} {k : TypeId} (hk : P.underlying k = some .string) {w : World} {b : Nat} {l : ML} (h : mapP b l w) (ho : KeysOk l) (hl : l.length ≤ 1000000) :
    ∃ D : DataW Unit, w.ownsMap P k noRd b l.length D ∧ (strKeys D).Perm (l.map fun p => p.1.data.toList) ∧ Maps.size D ≤ 1000000 := by
  obtain ⟨es, c, hb, hm⟩ := h
  have hcut := hm.cut
  have hlen : es.length = l.length := by rw [← hcut, List.length_map]
  have hrg : ∀ e ∈ es, WideElems.rg P k noRd e.ent = (.string e.1.data.toList, .nil) := fun e he => by
    unfold WideElems.rg
    rw [rd_ent hk (ho.size (e.1, e.2.1) (by rw [← hcut]; exact List.mem_map.2 ⟨e, he, rfl⟩))]
    rfl
  have hmap : ((es.map ME.ent).toArray.toList.map (WideElems.rg P k noRd)) = es.map fun e => ((.string e.1.data.toList, .nil) : Lit × DataW Unit) := by
    rw [List.toList_toArray, List.map_map]
    exact List.map_congr_left fun e he => hrg e he
  refine ⟨_, ⟨_, c, hb, ⟨?_, ?_, ?_⟩, ?_, rfl⟩, ?_, ?_⟩
  · have := maxLen_eq
    simp only [List.size_toArray, List.length_map]
    omega
  · refine (MapKept.stamped_iff _ _).2 ⟨?_, ?_, ?_⟩
    · intro x hx
      rw [List.toList_toArray] at hx
      obtain ⟨e, he, rfl⟩ := List.mem_map.1 hx
      exact hm.lt e he
    · rw [List.toList_toArray, List.map_map]
      have h2 := hm.inc
      refine List.Pairwise.imp (fun {a b} q => Nat.ne_of_lt q) ?_
      have e3 : es.map ((·.born) ∘ ME.ent) = es.map (·.2.2) := rfl
      rw [e3]
      exact h2
    · rw [List.toList_toArray]
      have h2 := ho.nodup
      rw [← hcut, List.map_map] at h2
      refine List.pairwise_map.2 ?_
      have h3 := List.pairwise_map.1 h2
      refine h3.imp fun {a b} q r => q ?_
      have r' : Value.string a.1 = Value.string b.1 := r
      injection r'
  · intro x hx
    rw [List.toList_toArray] at hx
    obtain ⟨e, he, rfl⟩ := List.mem_map.1 hx
    exact ⟨_, rd_ent hk (ho.size (e.1, e.2.1) (by rw [← hcut]; exact List.mem_map.2 ⟨e, he, rfl⟩))⟩
  · simp only [List.size_toArray, List.length_map]
    omega
  · rw [hmap]
    show ((es.map fun e => ((.string e.1.data.toList, .nil) : Lit × DataW Unit)).foldr DataW.insert []).map (fun p => strOf p.1) |>.Perm _
    refine ((WideShapes.sorted_perm _).map _).trans ?_
    rw [List.map_map, ← hcut, List.map_map]
    exact List.Perm.refl _
  · rw [hmap]
    show ((es.map fun e => ((.string e.1.data.toList, .nil) : Lit × DataW Unit)).foldr DataW.insert []).length ≤ _
    rw [(WideShapes.sorted_perm _).length_eq, List.length_map]
    omega
end Go.Proofs.YthkjfepbmnabkaaDoor.Sx

/- A map's keys, sorted: the two calls. -/
namespace Go.Proofs.YthkjfepbmnabkaaDoor.Sx
open Go Go.Maps Go.Shelf Go.RowKit
attribute [local irreducible] Calls

theorem bk_cell0 {b ty : Nat} {v : Value} {w : World} (h : (bkF b ty [v]).p w) : w.cell? ⟨b, 0, none⟩ = some v := by
  have hb : w.heap[b]? = some (.cells [v].toArray ty (0, 0)) := h
  rw [cell_of_row w b 0 _ _ _ hb]
  rfl
theorem chg_below {w w' : World} (h : Below w.heap.size w w') : Chg None_ w w' := ⟨h.os, h.tape, h.output, h.size, fun k hk _ => h.block k hk⟩
theorem sortsS (m : Nat) : AnyZ.SortsIn Tryd.prog Tryd.sorted102_ren Fence.wide m :=
  ⟨fun blk off cap ss W hH hblk hsz => callsIn_wide.2 (AnyM.slices_Sort_string Tryd.sort126 blk off cap ss W hH hblk hsz),
   fun p cap W => callsIn_wide.2 (AnyM.slices_Sort_string_none Tryd.sort126 p cap W)⟩
/-- A row of texts. -/
abbrev trowF (A : Option Addr) (l : List ByteArray) (c : Nat) : Fact := rowF ty_string 1 (.slice A l.length c) l.length (l.map Value.string)
theorem con_trow {P : Program} {k : FuncId} {args : Array Value} {w : World} {l : List ByteArray} (h : Calls P k args w fun en w' => ∃ v, en = .returned v ∧ w'.ownsRow w.heap.size ty_string 1 v l.length (l.map Value.string) ∧ Below w.heap.size w w') :
    Con P k args w [] fun v Fs => ∃ A c, v = .slice A l.length c ∧ (0 < l.length → ∃ ad, A = some ad) ∧ Fs = [trowF A l c] := by
  refine Calls.mono h ?_
  rintro en w' ⟨v, rfl, ho, hb⟩
  obtain ⟨A, c, rfl, hA⟩ : ∃ A c, v = .slice A l.length c ∧ (0 < l.length → ∃ ad, A = some ad) := by
    rcases ho.2 with ⟨rfl, h0⟩ | ⟨g, cap, cur, rfl, _⟩
    · exact ⟨none, 0, by rw [h0], fun h => absurd h0 (by omega)⟩
    · exact ⟨_, _, rfl, fun _ => ⟨_, rfl⟩⟩
  refine ⟨_, rfl, [trowF A l c], ⟨A, c, rfl, hA, rfl⟩, by rw [Un.nil]; exact chg_below hb, ⟨fun g hg => ?_, fun g hg k hk => ?_, List.pairwise_singleton _ _⟩, ⟨rfl, trivial⟩, fun g hg k hk => ?_⟩
  · obtain rfl := List.mem_singleton.1 hg; exact ownsRow_base_a ho (Nat.zero_le _)
  · obtain rfl := List.mem_singleton.1 hg; exact (ho.lt k hk).2
  · obtain rfl := List.mem_singleton.1 hg; exact .inr (ho.lt k hk).1
theorem sorted_row {ss : List (List UInt8)} {l : List ByteArray} (h : ss.Perm (l.map fun s => s.data.toList)) : (ss.mergeSort (fun x y => decide (x ≤ y))).map Proofs.encStr = (sortK l).map Value.string := by
  unfold sortK
  rw [List.map_map]
  have e : ss.mergeSort leB = (l.map fun s => s.data.toList).mergeSort leB := mergeSort_of_perm h
  show (ss.mergeSort leB).map _ = _
  rw [e]
  exact List.map_congr_left fun a _ => rfl
/-- maps.Keys(m): an iterator, its map in a block of its own. -/
theorem keysT_c (w : World) (mb : Option Nat) : Con Tryd.prog 103 #[.map mb] w [] fun v Fs => ∃ B, v = .func (.func 127) #[] #[.pointer (some ⟨B, 0, none⟩)] ∧ Fs = [bkF B 84 [.map mb]] := by
  have h := AnyZ.keys_in Tryd.keys103 Fence.wide 5 trivial rfl mb w
  refine Calls.mono (callsIn_wide.1 h) ?_
  rintro e w' ⟨rfl, rfl⟩
  refine ⟨_, rfl, [bkF w.heap.size 84 [.map mb]], ⟨_, rfl, rfl⟩, by rw [Un.nil]; exact Chg.alloc w _, ⟨fun g hg => ?_, fun g hg k hk => ?_, List.pairwise_singleton _ _⟩, ⟨rfl, trivial⟩, fun g hg k hk => ?_⟩
  · obtain rfl := List.mem_singleton.1 hg; exact heap_alloc_new w _
  · obtain rfl := List.mem_singleton.1 hg
    obtain rfl : k = w.heap.size := hk
    simp
  · obtain rfl := List.mem_singleton.1 hg
    obtain rfl : k = w.heap.size := hk
    exact .inr (Nat.le_refl _)
/-- slices.Sorted of that. -/
theorem sortedT_c (w : World) (B b : Nat) (l : ML) (ho : KeysOk l) (hl : l.length ≤ 1000000) (hm : Mem w [bkF B 84 [.map (some b)], mapF b l]) :
    Con Tryd.prog 102 #[.func (.func 127) #[] #[.pointer (some ⟨B, 0, none⟩)]] w [] fun v Fs => ∃ A c, v = .slice A (sortK (l.map (·.1))).length c ∧ (0 < (sortK (l.map (·.1))).length → ∃ ad, A = some ad) ∧ Fs = [trowF A (sortK (l.map (·.1))) c] := by
  have hml := maxLen_eq
  have hB := hm.fact _ List.mem_cons_self
  have hbm : mapP b l w := hm.fact (mapF b l) (by simp)
  have hBl : B < w.heap.size := hm.flt _ List.mem_cons_self B rfl
  obtain ⟨D, hown, hperm, hsz⟩ := owns_map (P := Tryd.prog) (k := ty_string) Tryd.underlying9 hbm ho hl
  have hseq : SeqGives Fence.wide 2 Tryd.prog 127 #[.pointer (some ⟨B, 0, none⟩)] Proofs.encStr (fun ss => ss.Perm (strKeys D)) (Maps.size D) w :=
    AnyZ.keys_gives (ρ := Tryd.keys103_ren) { Tryd.keys103 with } Fence.wide _ trivial rfl (by omega) B b l.length D w hBl (bk_cell0 hB) hown
  have cS := AnyZ.sorted_in Tryd.sorted102 Fence.wide 5 trivial trivial trivial trivial rfl (by omega) (sortsS _) (enters_of Tryd.func126 (by kernel_rfl) rfl) 127 #[.pointer (some ⟨B, 0, none⟩)] trivial (enters_of Tryd.func127 (by kernel_rfl) rfl) _ _ (by omega) (by omega) w hseq
  have hlen : (sortK (l.map (·.1))).length = l.length := by rw [sortK_len, List.length_map]
  refine con_trow (Calls.mono (callsIn_wide.1 cS) ?_)
  rintro e w' ⟨v, ss, rfl, hS, hrow, _, hb⟩
  have hp2 : ss.Perm ((l.map (·.1)).map fun s => s.data.toList) := by
    rw [List.map_map]
    exact hS.trans hperm
  have hsl : ss.length = (sortK (l.map (·.1))).length := by rw [hlen, hp2.length_eq]; simp
  rw [sorted_row hp2, hsl] at hrow
  exact ⟨v, rfl, hrow, hb⟩
/-- maps.Keys(m): an iterator, its map in a block of its own. -/
theorem keysU_c (w : World) (mb : Option Nat) : Con Tryd.prog 106 #[.map mb] w [] fun v Fs => ∃ B, v = .func (.func 128) #[] #[.pointer (some ⟨B, 0, none⟩)] ∧ Fs = [bkF B 88 [.map mb]] := by
  have h := AnyZ.keys_in Tryd.keys106 Fence.wide 5 trivial rfl mb w
  refine Calls.mono (callsIn_wide.1 h) ?_
  rintro e w' ⟨rfl, rfl⟩
  refine ⟨_, rfl, [bkF w.heap.size 88 [.map mb]], ⟨_, rfl, rfl⟩, by rw [Un.nil]; exact Chg.alloc w _, ⟨fun g hg => ?_, fun g hg k hk => ?_, List.pairwise_singleton _ _⟩, ⟨rfl, trivial⟩, fun g hg k hk => ?_⟩
  · obtain rfl := List.mem_singleton.1 hg; exact heap_alloc_new w _
  · obtain rfl := List.mem_singleton.1 hg
    obtain rfl : k = w.heap.size := hk
    simp
  · obtain rfl := List.mem_singleton.1 hg
    obtain rfl : k = w.heap.size := hk
    exact .inr (Nat.le_refl _)
/-- slices.Sorted of that. -/
theorem sortedU_c (w : World) (B b : Nat) (l : ML) (ho : KeysOk l) (hl : l.length ≤ 1000000) (hm : Mem w [bkF B 88 [.map (some b)], mapF b l]) :
    Con Tryd.prog 102 #[.func (.func 128) #[] #[.pointer (some ⟨B, 0, none⟩)]] w [] fun v Fs => ∃ A c, v = .slice A (sortK (l.map (·.1))).length c ∧ (0 < (sortK (l.map (·.1))).length → ∃ ad, A = some ad) ∧ Fs = [trowF A (sortK (l.map (·.1))) c] := by
  have hml := maxLen_eq
  have hB := hm.fact _ List.mem_cons_self
  have hbm : mapP b l w := hm.fact (mapF b l) (by simp)
  have hBl : B < w.heap.size := hm.flt _ List.mem_cons_self B rfl
  obtain ⟨D, hown, hperm, hsz⟩ := owns_map (P := Tryd.prog) (k := ty_string) Tryd.underlying9 hbm ho hl
  have hseq : SeqGives Fence.wide 2 Tryd.prog 128 #[.pointer (some ⟨B, 0, none⟩)] Proofs.encStr (fun ss => ss.Perm (strKeys D)) (Maps.size D) w :=
    AnyZ.keys_gives (ρ := Tryd.keys106_ren) { Tryd.keys106 with } Fence.wide _ trivial rfl (by omega) B b l.length D w hBl (bk_cell0 hB) hown
  have cS := AnyZ.sorted_in Tryd.sorted102 Fence.wide 5 trivial trivial trivial trivial rfl (by omega) (sortsS _) (enters_of Tryd.func126 (by kernel_rfl) rfl) 128 #[.pointer (some ⟨B, 0, none⟩)] trivial (enters_of Tryd.func128 (by kernel_rfl) rfl) _ _ (by omega) (by omega) w hseq
  have hlen : (sortK (l.map (·.1))).length = l.length := by rw [sortK_len, List.length_map]
  refine con_trow (Calls.mono (callsIn_wide.1 cS) ?_)
  rintro e w' ⟨v, ss, rfl, hS, hrow, _, hb⟩
  have hp2 : ss.Perm ((l.map (·.1)).map fun s => s.data.toList) := by
    rw [List.map_map]
    exact hS.trans hperm
  have hsl : ss.length = (sortK (l.map (·.1))).length := by rw [hlen, hp2.length_eq]; simp
  rw [sorted_row hp2, hsl] at hrow
  exact ⟨v, rfl, hrow, hb⟩
end Go.Proofs.YthkjfepbmnabkaaDoor.Sx

/- The tenants, rising. -/
namespace Go.Proofs.YthkjfepbmnabkaaDoor.Sx
open Go
attribute [local irreducible] Calls

theorem Mem.part2 {w : World} {f g g' : Fact} (h : Mem w [f, g]) (hf : f.own = true) (hp : g'.p w) (hD : ∀ k, g'.D k → g.D k) : Mem w [f, g'] := by
  have hs := (List.pairwise_cons.1 h.sepf).1 g (by simp) (.inl hf)
  refine ⟨fun x hx => ?_, fun x hx k hk => ?_, List.pairwise_cons.2 ⟨fun x hx _ k hk hk' => ?_, List.pairwise_singleton _ _⟩⟩
  · simp only [List.mem_cons, List.not_mem_nil, or_false] at hx
    rcases hx with rfl | rfl
    · exact h.fact _ (by simp)
    · exact hp
  · simp only [List.mem_cons, List.not_mem_nil, or_false] at hx
    rcases hx with rfl | rfl
    · exact h.flt _ (by simp) k hk
    · exact h.flt g (by simp) k (hD k hk)
  · obtain rfl := List.mem_singleton.1 hx
    exact hs k hk (hD k hk')
theorem sto_mapD {S : Sto} : ∀ k, (mapF S.m S.ml).D k → (stoF S).D k := fun k hk => ⟨mapF S.m S.ml, by simp, hk⟩
def Sto.names (S : Sto) : List ByteArray := sortK (S.ml.map (·.1))
theorem Sto.names_len (S : Sto) : S.names.length = S.ts.length := by rw [Sto.names, sortK_len, List.length_map, Sto.ml, List.length_map]
def insN (L : List ByteArray) (pre : List ByteArray) (x : ByteArray) (args : Array Value) (X : Fact) : Prop := args = #[.string x] ∧ X = noF ∧ L[pre.length]? = some x
def tenEnd (S : Sto) (J Jx : List ByteArray → Fact → Prop) (Fs : List Fact) : Prop :=
  ∃ f Fs', Fs = f :: Fs' ∧ ((∃ xs, J xs f ∧ xs = S.names ∧ Fs' = [stoF S]) ∨ (∃ pre, Jx pre f ∧ Fs' = [stoF S]))
theorem ten_it (l : Nat) (w : World) (bx : Nat) (S : Sto) (f0 R : Fact) (J Jx : List ByteArray → Fact → Prop) (hok : KeysOk S.ml) (hL : S.ts.length ≤ 1000) (hJ0 : J [] f0) (hJo : ∀ pre f, J pre f → f.own = true) (hRo : R.own = false) (hY : Yc Tryd.prog l J Jx R (insN S.names))
    (hm : Mem w (f0 :: R :: [bkF bx ty_ptr_cred_Store [ptr S.b], stoF S])) :
    Con Tryd.prog n_cred_Store_Tenants_1 #[.func (.yield l) #[] #[], .pointer (some ⟨bx, 0, none⟩)] w [f0, bkF bx ty_ptr_cred_Store [ptr S.b], stoF S] (fun _ Fs => tenEnd S J Jx Fs) := by
  have g := good_cred_Store_Tenants_1 w (Un [f0, bkF bx ty_ptr_cred_Store [ptr S.b], stoF S]) [bx]
  have hs0 : Sat (cx_cred_Store_Tenants_1 w (Un [f0, bkF bx ty_ptr_cred_Store [ptr S.b], stoF S]) [bx]) (Va.of fun _ => bx) 1 [] (f0 :: R :: [bkF bx ty_ptr_cred_Store [ptr S.b], stoF S]) w := by
    refine hm.sat rfl (fun f hf ho k hk => ?_) ⟨Nat.le_refl 1, fun i hi => by obtain rfl : i = 0 := Nat.lt_one_iff.1 hi; rfl⟩
    simp only [List.mem_cons, List.not_mem_nil, or_false] at hf
    rcases hf with rfl | rfl | rfl | rfl
    · exact ⟨_, by simp, hk⟩
    · rw [hRo] at ho; cases ho
    · exact ⟨bkF bx ty_ptr_cred_Store [ptr S.b], by simp, hk⟩
    · exact ⟨stoF S, by simp, hk⟩
  have hs1 := hs0.toBk 2 rfl 0 Nat.zero_lt_one rfl
  refine con_of_sx (cx := cx_cred_Store_Tenants_1 w (Un [f0, bkF bx ty_ptr_cred_Store [ptr S.b], stoF S]) [bx]) g b_cred_Store_Tenants_1 rfl rfl (β := Va.of fun _ => bx) [.c (.v (.func (.yield l) #[] #[])), .c (.p 0 0)] 1 _ _ rfl rfl hs1 ?_
  have hml : S.ml.length = S.ts.length := by rw [Sto.ml, List.length_map]
  refine ⟨.map (some S.m), fun β w' hs => bkc (sto_bk (hs.get 2 rfl)) (o := 0) rfl, ?_⟩
  refine call_con [] (fun β w' hs => keysT_c w' (some S.m)) ?_
  rintro v Fs ⟨B, rfl, rfl⟩
  refine call_con [] (fun β w' hs => sortedT_c w' B S.m S.ml hok (by omega) ((hs.mem.take (js := [0, 3]) rfl).part2 rfl (sto_map (hs.get 3 rfl)) sto_mapD)) ?_
  have hnl := S.names_len
  rintro v Fs ⟨A, c, rfl, hA0, rfl⟩
  have e0 : sortK (S.ml.map (·.1)) = S.names := rfl
  rw [e0] at hA0 ⊢
  clear e0
  generalize hNm : S.names = N at *
  refine loop_rule (ι := List ByteArray × Fact) 1 (fun i => [(0, .c (.v (.func (.yield l) #[] #[]))), (1, .c (.p 0 0)), (12, .c (.v (.slice A N.length c))), (13, .c (.v (.int .i64 (N.length : Int)))), (14, .c (.v (.int .i64 (i.1.length : Int))))]) (fun _ => [⟨0, ty_ptr_cred_Store, [.v (ptr S.b)]⟩]) (fun i => [trowF A N c, i.2, R, stoF S])
    (fun i => J i.1 i.2 ∧ i.1 = N.take i.1.length ∧ i.1.length ≤ N.length) (fun i => N.length - i.1.length) ([], f0) ⟨hJ0, rfl, Nat.zero_le _⟩ (Ent.mk' ⟨rfl, rfl, rfl, rfl, rfl, trivial⟩ rfl (fun β w' hs => hs.perm [0, 2, 3, 4])) g ?_
  rintro ⟨pre, f⟩ ⟨hJ, hpre, hi⟩
  simp only at hJ hpre hi
  have hfo := hJo _ _ hJ
  simp only
  refine BIf.dec (fun hlt => ?_) (fun hge => ?_)
  · have hlt0 : (pre.length : Int) < N.length := hlt
    have hkl : pre.length < N.length := by omega
    obtain ⟨x, hx, _⟩ := at_lt hkl
    obtain ⟨ad, hAd⟩ := hA0 (by omega)
    refine ⟨ad, pre.length, hAd, rfl, hkl, .string x, fun β w' hs => ?_, ?_⟩
    · have h := row_rd (hs.get 0 rfl)
      rw [hAd] at h
      exact Rd.cell1 h (by simp [hx])
    refine yield_ro (X := noF) (x := x) hY 1 2 rfl hJ hfo rfl hRo (by decide) (fun β => ⟨rfl, rfl, hx⟩) rfl (fun β w _ => ⟨trivial, fun k hk => hk.elim, fun k _ h => h.elim⟩) ?_ ?_
    · intro f2 hfo2 hJ2
      have e : (pre ++ [x]).length = pre.length + 1 := by rw [List.length_append]; rfl
      refine ⟨((pre.length + 1 : Nat) : Int), by rw [wrap_i64 (by omega) (by omega)]; rfl, ?_⟩
      refine ⟨(pre ++ [x], f2), ⟨hJ2, ?_, by show (pre ++ [x]).length ≤ _; omega⟩, by show N.length - (pre ++ [x]).length < N.length - pre.length; omega, ?_⟩
      · show pre ++ [x] = N.take (pre ++ [x]).length
        rw [e, List.take_add_one, hx, ← hpre]
        rfl
      · simp only [e]
        exact Ent.mk' ⟨rfl, rfl, rfl, rfl, rfl, trivial⟩ rfl (fun β w' hs => hs.perm [1, 0, 2, 3])
    · intro f2 hfo2 hJ2 β w' hs
      exact (hs.keepB (List.nil_sublist _)).fin [0, 3] ⟨f2, _, rfl, .inr ⟨_, hJ2, rfl⟩⟩ rfl rfl rfl ⟨hfo2, rfl, trivial⟩
  · have hge0 : ¬ (pre.length : Int) < N.length := hge
    intro β w' hs
    exact (hs.keepB (List.nil_sublist _)).fin [1, 3] ⟨f, _, rfl, .inl ⟨pre, hJ, by rw [hpre, hNm, List.take_of_length_le (by omega)], rfl⟩⟩ rfl rfl rfl ⟨hfo, rfl, trivial⟩
theorem tenants_c (w : World) (S : Sto) : Con Tryd.prog n_cred_Store_Tenants #[ptr S.b] w [] (fun v Fs => ∃ bx, v = .func (.func n_cred_Store_Tenants_1) #[] #[.pointer (some ⟨bx, 0, none⟩)] ∧ Fs = [bkF bx ty_ptr_cred_Store [ptr S.b]]) := by
  refine con_of_sx (cx := cx_cred_Store_Tenants w (Un [])) (good_cred_Store_Tenants w (Un [])) b_cred_Store_Tenants rfl rfl (β := Va.z) [.c (.v (ptr S.b))] 0 [] [] rfl rfl (Sat.start rfl) ?_
  intro β w' hs
  exact hs.ofBk.fin [0] ⟨β 0, rfl, rfl⟩
end Go.Proofs.YthkjfepbmnabkaaDoor.Sx

/- The tenants, collected. -/
namespace Go.Proofs.YthkjfepbmnabkaaDoor.Sx
open Go
attribute [local irreducible] Calls

structure ColI where
  A : Option Addr
  c : Nat
  l : List ByteArray
theorem appendT_c (w : World) (bx : Nat) (S : Sto) (hok : KeysOk S.ml) (hL : S.ts.length ≤ 1000) (hm : Mem w [bkF bx ty_ptr_cred_Store [ptr S.b], stoF S]) :
    Con Tryd.prog n_slices_AppendSeq_string_string #[.slice none 0 0, .func (.func n_cred_Store_Tenants_1) #[] #[.pointer (some ⟨bx, 0, none⟩)]] w [bkF bx ty_ptr_cred_Store [ptr S.b], stoF S] fun v Fs => ∃ A c, v = .slice A S.names.length c ∧ (0 < S.names.length → ∃ ad, A = some ad) ∧ Fs = [trowF A S.names c, stoF S] := by
  have g := good_slices_AppendSeq_string_string w (Un [bkF bx ty_ptr_cred_Store [ptr S.b], stoF S])
  have hml := maxLen_eq
  have hnl := S.names_len
  have hs0 : Sat (cx_slices_AppendSeq_string_string w (Un [bkF bx ty_ptr_cred_Store [ptr S.b], stoF S])) Va.z 0 [] [bkF bx ty_ptr_cred_Store [ptr S.b], stoF S] w := hm.sat0 rfl (fun f hf _ k hk => ⟨f, hf, hk⟩)
  refine con_of_sx (cx := cx_slices_AppendSeq_string_string w (Un [bkF bx ty_ptr_cred_Store [ptr S.b], stoF S])) g b_slices_AppendSeq_string_string rfl rfl (β := Va.z) [.c (.v (.slice none 0 0)), .c (.v (.func (.func n_cred_Store_Tenants_1) #[] #[.pointer (some ⟨bx, 0, none⟩)]))] 0 [] _ rfl rfl hs0 ?_
  refine range_rule (α := ByteArray) (ι := ColI) (κ := Unit) g rfl (cv := [.pointer (some ⟨bx, 0, none⟩)]) rfl (by kernel_rfl) 1 (Nat.le_refl 1)
    (fun pre i => i.l = pre ∧ pre = S.names.take pre.length ∧ pre.length ≤ S.names.length ∧ (0 < i.l.length → ∃ ad, i.A = some ad)) (fun i => [⟨0, ty_sl_string, [.v (.slice i.A i.l.length i.c)]⟩]) (fun i => [trowF i.A i.l i.c]) (fun i => ⟨rfl, trivial⟩)
    (fun _ _ _ => False) (fun _ => []) (fun _ => []) (fun _ => trivial)
    [bkF bx ty_ptr_cred_Store [ptr S.b], stoF S] [] [] ⟨rfl, rfl, trivial⟩ (fun g h => by cases h) ⟨none, 0, []⟩ ⟨rfl, rfl, Nat.zero_le _, fun h => absurd h (by decide)⟩
    (fun β w hs => ⟨β, Agr.refl _ _, (hs.nilRow ty_string 1).perm [1, 2, 0]⟩) (insN S.names)
    (fun xs Fs' => xs = S.names ∧ Fs' = [stoF S]) (fun pre Fs' => Fs' = [stoF S])
    (fun l w f0 R J Jx hJ0 hJo hRo hY hm => (ten_it l w bx S f0 R J Jx hok hL hJ0 hJo hRo hY hm).mono fun _ Fs h => h) ?_ ?_ ?_
  · rintro ⟨A, c, l⟩ pre x args X W S' lb bs pn pn' hbs ⟨rfl, hpre, hlen, hA⟩ ⟨rfl, rfl, hx⟩
    simp only at hA
    have hkl : l.length < S.names.length := (List.getElem?_eq_some_iff.1 hx).1
    refine ⟨_, rfl, ?_⟩
    intro b2
    refine ⟨2, l.length, (l ++ [x]).length, l.map Value.string, [Value.string x], (l ++ [x]).map Value.string, rfl, fun β w hs => row_rd (hs.get 0 rfl), fun u hu => by obtain rfl := List.mem_singleton.1 hu; rfl, by simp, by simp, by rw [List.length_append, hml]; show l.length + 1 ≤ _; omega, by rw [List.length_append]; show (l.length + 1) * 16 ≤ _; omega, ?_⟩
    intro A' c' h1 h2 h3
    have e1 : (l ++ [x]).length = l.length + 1 := by rw [List.length_append]; rfl
    refine ⟨⟨A', c', l ++ [x]⟩, ⟨rfl, ?_, by rw [e1]; omega, fun _ => ?_⟩, Ent.mk' trivial rfl (fun β w hs => hs.perm [2])⟩
    · rw [e1, List.take_add_one, hx, ← hpre]
      rfl
    · cases A' with
      | none => exact absurd (h3 rfl).2 (by decide)
      | some ad => exact ⟨ad, rfl⟩
  · rintro xs ⟨A, c, l⟩ Fs ⟨rfl, _, _, hA⟩ ⟨rfl, rfl⟩
    simp only at hA
    intro β w' hs
    exact (hs.keepB (List.nil_sublist _)).fin [1, 0] ⟨A, c, rfl, hA, rfl⟩
  · rintro e pre j Fs ⟨⟩
theorem collectT_c (w : World) (bx : Nat) (S : Sto) (hok : KeysOk S.ml) (hL : S.ts.length ≤ 1000) (hm : Mem w [bkF bx ty_ptr_cred_Store [ptr S.b], stoF S]) :
    Con Tryd.prog n_slices_Collect_string #[.func (.func n_cred_Store_Tenants_1) #[] #[.pointer (some ⟨bx, 0, none⟩)]] w [bkF bx ty_ptr_cred_Store [ptr S.b], stoF S] fun v Fs => ∃ A c, v = .slice A S.names.length c ∧ (0 < S.names.length → ∃ ad, A = some ad) ∧ Fs = [trowF A S.names c, stoF S] := by
  have g := good_slices_Collect_string w (Un [bkF bx ty_ptr_cred_Store [ptr S.b], stoF S])
  have hs0 : Sat (cx_slices_Collect_string w (Un [bkF bx ty_ptr_cred_Store [ptr S.b], stoF S])) Va.z 0 [] [bkF bx ty_ptr_cred_Store [ptr S.b], stoF S] w := hm.sat0 rfl (fun f hf _ k hk => ⟨f, hf, hk⟩)
  refine con_of_sx (cx := cx_slices_Collect_string w (Un [bkF bx ty_ptr_cred_Store [ptr S.b], stoF S])) g b_slices_Collect_string rfl rfl (β := Va.z) [.c (.v (.func (.func n_cred_Store_Tenants_1) #[] #[.pointer (some ⟨bx, 0, none⟩)]))] 0 [] _ rfl rfl hs0 ?_
  refine call_con [0, 1] (fun β w' hs => appendT_c w' bx S hok hL (hs.mem.take (js := [0, 1]) rfl)) ?_
  rintro v Fs ⟨A, c, rfl, hA, rfl⟩
  intro β w' hs
  exact hs.fin [0, 1] ⟨A, c, rfl, hA, rfl⟩
end Go.Proofs.YthkjfepbmnabkaaDoor.Sx

/- A store whose tenants have nobody: its users. -/
namespace Go.Proofs.YthkjfepbmnabkaaDoor.Sx
open Go
attribute [local irreducible] Calls

theorem sto_tenD {S : Sto} {A B : List Ten} {T : Ten} (hT : S.ts = A ++ T :: B) : ∀ k, (mapF T.b T.m).D k → (stoF S).D k := fun k hk =>
  ⟨sepF (S.ts.map tenF), by simp, tenF T, List.mem_map.2 ⟨T, by rw [hT]; simp, rfl⟩, mapF T.b T.m, by simp, hk⟩
theorem usr0_it {α : Type} (l : Nat) (w : World) (bx bt : Nat) (S : Sto) (t : ByteArray) (f0 R : Fact) (J Jx : List α → Fact → Prop) {A B : List Ten} {T : Ten} (hT : S.ts = A ++ T :: B) (htO : tenO S.ts t = some T) (hE : T.us = []) (hJ0 : J [] f0) (hJo : ∀ pre f, J pre f → f.own = true) (hRo : R.own = false)
    (hm : Mem w (f0 :: R :: [bkF bx ty_ptr_cred_Store [ptr S.b], bkF bt ty_string [.string t], stoF S])) :
    Con Tryd.prog n_cred_Store_Users_1 #[.func (.yield l) #[] #[], .pointer (some ⟨bx, 0, none⟩), .pointer (some ⟨bt, 0, none⟩)] w [f0, bkF bx ty_ptr_cred_Store [ptr S.b], bkF bt ty_string [.string t], stoF S]
      (fun _ Fs => ∃ f Fs', Fs = f :: Fs' ∧ ((∃ xs, J xs f ∧ xs = [] ∧ Fs' = [stoF S]) ∨ (∃ pre, Jx pre f ∧ False))) := by
  have g := good_cred_Store_Users_1 w (Un [f0, bkF bx ty_ptr_cred_Store [ptr S.b], bkF bt ty_string [.string t], stoF S]) [bx, bt]
  have hs0 : Sat (cx_cred_Store_Users_1 w (Un [f0, bkF bx ty_ptr_cred_Store [ptr S.b], bkF bt ty_string [.string t], stoF S]) [bx, bt]) (Va.of fun i => [bx, bt].getD i 0) 2 [] (f0 :: R :: [bkF bx ty_ptr_cred_Store [ptr S.b], bkF bt ty_string [.string t], stoF S]) w := by
    refine hm.sat rfl (fun f hf ho k hk => ?_) ⟨Nat.le_refl 2, fun i _ => rfl⟩
    simp only [List.mem_cons, List.not_mem_nil, or_false] at hf
    rcases hf with rfl | rfl | rfl | rfl | rfl
    · exact ⟨_, by simp, hk⟩
    · rw [hRo] at ho; cases ho
    · exact ⟨bkF bx ty_ptr_cred_Store [ptr S.b], by simp, hk⟩
    · exact ⟨bkF bt ty_string [.string t], by simp, hk⟩
    · exact ⟨stoF S, by simp, hk⟩
  have hs1 := (hs0.toBk 3 rfl 1 (by decide) rfl).toBk 2 rfl 0 (by decide) rfl
  refine con_of_sx (cx := cx_cred_Store_Users_1 w (Un [f0, bkF bx ty_ptr_cred_Store [ptr S.b], bkF bt ty_string [.string t], stoF S]) [bx, bt]) g b_cred_Store_Users_1 rfl rfl (β := Va.of fun i => [bx, bt].getD i 0) [.c (.v (.func (.yield l) #[] #[])), .c (.p 0 0), .c (.p 1 0)] 2 _ _ rfl rfl hs1 ?_
  have hm0 : T.m = [] := by rw [Ten.m, hE]; rfl
  refine call_pu (v := .map (some T.b)) (fun β w' hs => by
    have h := users_c w' S t (hs.get 2 rfl) (fun k hk => hs.flt _ (List.mem_of_getElem? (i := 2) rfl) k hk)
    rw [htO] at h
    exact h) ?_
  refine call_con [] (fun β w' hs => keysU_c w' (some T.b)) ?_
  rintro v Fs ⟨B', rfl, rfl⟩
  refine call_con [] (R := fun v Fs => ∃ A' c N, v = .slice A' 0 c ∧ Fs = [trowF A' N c]) (fun β w' hs => by
    have h1 := (hs.mem.take (js := [0, 3]) rfl).part2 rfl (ten_map (sto_ten (hs.get 3 rfl) hT)) (sto_tenD hT)
    rw [hm0] at h1
    refine (sortedU_c w' B' T.b [] ⟨List.nodup_nil, fun p hp => by cases hp⟩ (Nat.zero_le _) h1).mono fun v Fs h => ?_
    obtain ⟨A', c, rfl, _, rfl⟩ := h
    exact ⟨A', c, _, by rw [sortK_len]; rfl, rfl⟩) ?_
  rintro v Fs ⟨A', c, N, rfl, rfl⟩
  refine loop_rule (ι := Unit) 2 (fun _ => [(13, .c (.v (.slice A' 0 c))), (14, .c (.v (.int .i64 0))), (15, .c (.v (.int .i64 0)))]) (fun _ => []) (fun _ => [f0, stoF S]) (fun _ => True) (fun _ => 0) () trivial (Ent.mk' ⟨rfl, rfl, rfl, trivial⟩ rfl (fun β w' hs => (hs.keepB (List.nil_sublist _)).perm [2, 4])) g ?_
  rintro ⟨⟩ -
  intro β w' hs
  exact hs.fin [0, 1] ⟨f0, _, rfl, .inl ⟨[], hJ0, rfl, rfl⟩⟩ rfl rfl rfl ⟨hJo _ _ hJ0, rfl, trivial⟩
theorem usersF_c (w : World) (S : Sto) (t : ByteArray) : Con Tryd.prog n_cred_Store_Users #[ptr S.b, .string t] w [] (fun v Fs => ∃ bx bt, v = .func (.func n_cred_Store_Users_1) #[] #[.pointer (some ⟨bx, 0, none⟩), .pointer (some ⟨bt, 0, none⟩)] ∧ Fs = [bkF bx ty_ptr_cred_Store [ptr S.b], bkF bt ty_string [.string t]]) := by
  refine con_of_sx (cx := cx_cred_Store_Users w (Un [])) (good_cred_Store_Users w (Un [])) b_cred_Store_Users rfl rfl (β := Va.z) [.c (.v (ptr S.b)), .c (.v (.string t))] 0 [] [] rfl rfl (Sat.start rfl) ?_
  intro β w' hs
  exact hs.ofBk.ofBk.fin [0, 1] ⟨β 0, β 1, rfl, rfl⟩
theorem appendU0_c (w : World) (bx bt : Nat) (S : Sto) (t : ByteArray) {A B : List Ten} {T : Ten} (hT : S.ts = A ++ T :: B) (htO : tenO S.ts t = some T) (hE : T.us = []) (hm : Mem w [bkF bx ty_ptr_cred_Store [ptr S.b], bkF bt ty_string [.string t], stoF S]) :
    Con Tryd.prog n_slices_AppendSeq_cred_Cred_cred_Cred #[.slice none 0 0, .func (.func n_cred_Store_Users_1) #[] #[.pointer (some ⟨bx, 0, none⟩), .pointer (some ⟨bt, 0, none⟩)]] w [bkF bx ty_ptr_cred_Store [ptr S.b], bkF bt ty_string [.string t], stoF S] fun v Fs => v = .slice none 0 0 ∧ Fs = [stoF S] := by
  have g := good_slices_AppendSeq_cred_Cred_cred_Cred w (Un [bkF bx ty_ptr_cred_Store [ptr S.b], bkF bt ty_string [.string t], stoF S])
  have hs0 : Sat (cx_slices_AppendSeq_cred_Cred_cred_Cred w (Un [bkF bx ty_ptr_cred_Store [ptr S.b], bkF bt ty_string [.string t], stoF S])) Va.z 0 [] [bkF bx ty_ptr_cred_Store [ptr S.b], bkF bt ty_string [.string t], stoF S] w := hm.sat0 rfl (fun f hf _ k hk => ⟨f, hf, hk⟩)
  refine con_of_sx (cx := cx_slices_AppendSeq_cred_Cred_cred_Cred w (Un [bkF bx ty_ptr_cred_Store [ptr S.b], bkF bt ty_string [.string t], stoF S])) g b_slices_AppendSeq_cred_Cred_cred_Cred rfl rfl (β := Va.z) [.c (.v (.slice none 0 0)), .c (.v (.func (.func n_cred_Store_Users_1) #[] #[.pointer (some ⟨bx, 0, none⟩), .pointer (some ⟨bt, 0, none⟩)]))] 0 [] _ rfl rfl hs0 ?_
  refine range_rule (α := Unit) (ι := Unit) (κ := Unit) g rfl (cv := [.pointer (some ⟨bx, 0, none⟩), .pointer (some ⟨bt, 0, none⟩)]) rfl (by kernel_rfl) 1 (Nat.le_refl 1)
    (fun pre _ => pre = []) (fun _ => [⟨0, ty_sl_cred_Cred, [.v (.slice none 0 0)]⟩]) (fun _ => []) (fun i => trivial)
    (fun _ _ _ => False) (fun _ => []) (fun _ => []) (fun _ => trivial)
    [bkF bx ty_ptr_cred_Store [ptr S.b], bkF bt ty_string [.string t], stoF S] [] [] ⟨rfl, rfl, rfl, trivial⟩ (fun g h => by cases h) () rfl
    (fun β w hs => ⟨β, Agr.refl _ _, hs⟩) (fun _ _ _ _ => False)
    (fun xs Fs' => xs = [] ∧ Fs' = [stoF S]) (fun _ _ => False)
    (fun l w f0 R J Jx hJ0 hJo hRo _ hm => (usr0_it l w bx bt S t f0 R J Jx hT htO hE hJ0 hJo hRo hm).mono fun _ Fs h => h) ?_ ?_ ?_
  · rintro ⟨⟩ pre x args X W S' lb bs pn pn' hbs _ ⟨⟩
  · rintro xs ⟨⟩ Fs _ ⟨rfl, rfl⟩
    intro β w' hs
    exact (hs.keepB (List.nil_sublist _)).fin [0] ⟨rfl, rfl⟩
  · rintro e pre j Fs ⟨⟩
theorem collectU0_c (w : World) (bx bt : Nat) (S : Sto) (t : ByteArray) {A B : List Ten} {T : Ten} (hT : S.ts = A ++ T :: B) (htO : tenO S.ts t = some T) (hE : T.us = []) (hm : Mem w [bkF bx ty_ptr_cred_Store [ptr S.b], bkF bt ty_string [.string t], stoF S]) :
    Con Tryd.prog n_slices_Collect_cred_Cred #[.func (.func n_cred_Store_Users_1) #[] #[.pointer (some ⟨bx, 0, none⟩), .pointer (some ⟨bt, 0, none⟩)]] w [bkF bx ty_ptr_cred_Store [ptr S.b], bkF bt ty_string [.string t], stoF S] fun v Fs => v = .slice none 0 0 ∧ Fs = [stoF S] := by
  have g := good_slices_Collect_cred_Cred w (Un [bkF bx ty_ptr_cred_Store [ptr S.b], bkF bt ty_string [.string t], stoF S])
  have hs0 : Sat (cx_slices_Collect_cred_Cred w (Un [bkF bx ty_ptr_cred_Store [ptr S.b], bkF bt ty_string [.string t], stoF S])) Va.z 0 [] [bkF bx ty_ptr_cred_Store [ptr S.b], bkF bt ty_string [.string t], stoF S] w := hm.sat0 rfl (fun f hf _ k hk => ⟨f, hf, hk⟩)
  refine con_of_sx (cx := cx_slices_Collect_cred_Cred w (Un [bkF bx ty_ptr_cred_Store [ptr S.b], bkF bt ty_string [.string t], stoF S])) g b_slices_Collect_cred_Cred rfl rfl (β := Va.z) [.c (.v (.func (.func n_cred_Store_Users_1) #[] #[.pointer (some ⟨bx, 0, none⟩), .pointer (some ⟨bt, 0, none⟩)]))] 0 [] _ rfl rfl hs0 ?_
  refine call_con [0, 1, 2] (hown := ⟨rfl, rfl, rfl, trivial⟩) (fun β w' hs => appendU0_c w' bx bt S t hT htO hE (hs.mem.take (js := [0, 1, 2]) rfl)) ?_
  rintro v Fs ⟨rfl, rfl⟩
  intro β w' hs
  exact hs.fin [0] ⟨rfl, rfl⟩
theorem mem_sortK {x : ByteArray} {l : List ByteArray} (h : x ∈ sortK l) : x ∈ l := by
  unfold sortK at h
  obtain ⟨s, hs, rfl⟩ := List.mem_map.1 h
  rw [(List.mergeSort_perm _ _).mem_iff] at hs
  obtain ⟨y, hy, rfl⟩ := List.mem_map.1 hs
  exact hy
theorem mlook_of_mem {x : ByteArray} : ∀ {l : ML}, x ∈ l.map (·.1) → mlook l x ≠ none
  | [], h => by cases h
  | (k, v) :: r, h => by
    by_cases hk : k = x
    · simp [mlook, hk]
    · simp only [mlook, if_neg hk]
      refine mlook_of_mem ?_
      simp only [List.map_cons, List.mem_cons] at h
      rcases h with h | h
      · exact absurd h.symm hk
      · exact h
/-- All credentials: nobody's. -/
theorem users0_c (w : World) (S : Sto) (hok : KeysOk S.ml) (hL : S.ts.length ≤ 1000) (hE : ∀ T ∈ S.ts, T.us = []) (hm : Mem w [stoF S]) :
    Con Tryd.prog n_ostiarylaw14_users #[ptr S.b] w [stoF S] fun v Fs => v = .slice none 0 0 ∧ Fs = [stoF S] := by
  have g := good_ostiarylaw14_users w (Un [stoF S])
  have hnl := S.names_len
  have hs0 : Sat (cx_ostiarylaw14_users w (Un [stoF S])) Va.z 0 [] [stoF S] w := hm.sat0 rfl (fun f hf _ k hk => ⟨f, hf, hk⟩)
  refine con_of_sx (cx := cx_ostiarylaw14_users w (Un [stoF S])) g b_ostiarylaw14_users rfl rfl (β := Va.z) [.c (.v (ptr S.b))] 0 [] _ rfl rfl hs0 ?_
  refine call_con [] (fun β w' hs => tenants_c w' S) ?_
  rintro v Fs ⟨bx, rfl, rfl⟩
  refine call_con [0, 1] (fun β w' hs => collectT_c w' bx S hok hL (hs.mem.take (js := [0, 1]) rfl)) ?_
  rintro v Fs ⟨A, c, rfl, hA0, rfl⟩
  have hmem : ∀ x ∈ S.names, ∃ A' T B', S.ts = A' ++ T :: B' ∧ tenO S.ts x = some T ∧ T.us = [] := by
    intro x hx
    have h1 := mlook_of_mem (mem_sortK hx)
    rcases look_ten x S.ts with ⟨A', T, B', e, h0, _⟩ | ⟨h2, _, _⟩
    · exact ⟨A', T, B', e, h0, hE T (by rw [e]; simp)⟩
    · exact absurd h2 h1
  generalize S.names = N at *
  refine loop_rule (ι := Nat) 0 (fun i => [(0, .c (.v (ptr S.b))), (3, .c (.v (.slice none 0 0))), (10, .c (.v (.slice A N.length c))), (11, .c (.v (.int .i64 (N.length : Int)))), (12, .c (.v (.int .i64 (i : Int))))]) (fun _ => []) (fun i => [trowF A N c, stoF S])
    (fun i => i ≤ N.length) (fun i => N.length - i) 0 (Nat.zero_le _) (Ent.same ⟨rfl, rfl, rfl, rfl, rfl, trivial⟩ rfl) g ?_
  intro i hi
  refine BIf.dec (fun hlt => ?_) (fun hge => ?_)
  · have hlt0 : (i : Int) < N.length := hlt
    have hkl : i < N.length := by omega
    obtain ⟨x, hx, hxm⟩ := at_lt hkl
    obtain ⟨A', T, B', e, h0, h1⟩ := hmem x hxm
    obtain ⟨ad, hAd⟩ := hA0 (by omega)
    refine ⟨ad, i, hAd, rfl, hkl, .string x, fun β w' hs => ?_, ?_⟩
    · have h := row_rd (hs.get 0 rfl)
      rw [hAd] at h
      exact Rd.cell1 h (by simp [hx])
    refine call_con [] (fun β w' hs => usersF_c w' S x) ?_
    rintro v Fs ⟨ux, ut, rfl, rfl⟩
    refine call_con [0, 1, 3] (hown := ⟨rfl, rfl, rfl, trivial⟩) (fun β w' hs => collectU0_c w' ux ut S x e h0 h1 (hs.mem.take (js := [0, 1, 3]) rfl)) ?_
    rintro v Fs ⟨rfl, rfl⟩
    refine loop_rule (ι := Unit) 0 (fun _ => [(0, .c (.v (ptr S.b))), (3, .c (.v (.slice none 0 0))), (10, .c (.v (.slice A N.length c))), (11, .c (.v (.int .i64 (N.length : Int)))), (12, .c (.v (.int .i64 (i : Int)))), (20, .c (.v (.int .i64 0))), (21, .c (.v (.int .i64 0)))]) (fun _ => []) (fun _ => [trowF A N c, stoF S]) (fun _ => True) (fun _ => 0) () trivial (Ent.mk' ⟨rfl, rfl, rfl, rfl, rfl, rfl, rfl, trivial⟩ rfl (fun β w' hs => hs.perm [1, 0])) g ?_
    rintro ⟨⟩ -
    refine ⟨((i + 1 : Nat) : Int), by rw [wrap_i64 (by omega) (by omega)]; rfl, ?_⟩
    exact ⟨i + 1, by omega, by show N.length - (i + 1) < N.length - i; omega, Ent.same ⟨rfl, rfl, rfl, rfl, rfl, trivial⟩ rfl⟩
  · intro β w' hs
    exact hs.fin [1] ⟨rfl, rfl⟩
end Go.Proofs.YthkjfepbmnabkaaDoor.Sx

/- So many tenants, users, roles: plainly. -/
namespace Go.Proofs.YthkjfepbmnabkaaDoor.Sx
open Go

def nmL (k : Nat) : List UInt8 := 110 :: hexB [UInt8.ofNat k]
def nm (k : Nat) : ByteArray := mkS (nmL k)
def zzT : ByteArray := ⟨#[122, 122]⟩
theorem nm_data (k : Nat) : (nm k).data.toList = nmL k := by simp [nm, mkS]
theorem nmL_inj : ∀ i : _root_.Fin 33, ∀ j : _root_.Fin 33, nmL i.1 = nmL j.1 → i = j := by decide +kernel
theorem nm_inj {i j : Nat} (hi : i < 33) (hj : j < 33) (h : nm i = nm j) : i = j := by
  have h2 : nmL i = nmL j := by rw [← nm_data, ← nm_data, h]
  exact congrArg (·.1) (nmL_inj ⟨i, hi⟩ ⟨j, hj⟩ h2)
theorem nm_zz (k : Nat) : ¬ nm k = zzT := fun h => by
  have h2 : nmL k = [122, 122] := by rw [← nm_data, h]; rfl
  unfold nmL at h2
  injection h2 with h3
  exact absurd h3 (by decide)
theorem nm_size (k : Nat) : (nm k).size ≤ 100000 := by
  show (nmL k).toArray.size ≤ _
  rw [List.size_toArray]
  simp [nmL, hexB_len]
theorem nm_plain : ∀ i : _root_.Fin 33, plainF (nm i.1).data.toList = true := by decide +kernel
theorem nm_name : ∀ i : _root_.Fin 33, nameA (nm i.1) = (nm i.1, 0) := by decide +kernel
theorem nm_less : ∀ i : _root_.Fin 9, ∀ j : _root_.Fin 9, i.1 < j.1 → Op.bytesLess (nm i.1).toList (nm j.1).toList = true := by decide +kernel
theorem zz_name : nameA zzT = (zzT, 0) := by decide +kernel
theorem zz_plain : plainF zzT.data.toList = true := by decide +kernel
theorem plain_right : rightA plainS = true := by decide
/-! ### lists -/
theorem aten_map (f : Nat → List ACrd) {a : Nat} (ha : a < 33) : ∀ {I : List Nat}, (∀ i ∈ I, i < 33) → a ∈ I → aten (I.map fun i => (nm i, f i)) (nm a) = some (f a)
  | [], _, h => by cases h
  | i :: r, hI, h => by
    by_cases e : i = a
    · subst e
      simp [aten]
    · have hn : ¬ nm i = nm a := fun q => e (nm_inj (hI i (by simp)) ha q)
      simp only [List.map_cons, aten, if_neg hn]
      refine aten_map f ha (fun i hi => hI i (by simp [hi])) ?_
      rcases List.mem_cons.1 h with q | q
      · exact absurd q.symm e
      · exact q
theorem aten_no (f : Nat → List ACrd) {t : ByteArray} : ∀ {I : List Nat}, (∀ i ∈ I, ¬ nm i = t) → aten (I.map fun i => (nm i, f i)) t = none
  | [], _ => rfl
  | i :: r, hI => by
    simp only [List.map_cons, aten, if_neg (hI i (by simp))]
    exact aten_no f fun i hi => hI i (by simp [hi])
theorem atenU_map (f : Nat → List ACrd) (g : List ACrd → List ACrd) {a : Nat} (ha : a < 33) : ∀ {I : List Nat}, (∀ i ∈ I, i < 33) → I.Nodup → atenU (I.map fun i => (nm i, f i)) (nm a) g = I.map fun i => (nm i, if i = a then g (f i) else f i)
  | [], _, _ => rfl
  | i :: r, hI, hn => by
    have hn2 := List.nodup_cons.1 hn
    by_cases e : i = a
    · subst e
      simp only [List.map_cons, atenU, if_true]
      congr 1
      refine List.map_congr_left fun j hj => ?_
      rw [if_neg (fun q : j = i => hn2.1 (q ▸ hj))]
    · have hne : ¬ nm i = nm a := fun q => e (nm_inj (hI i (by simp)) ha q)
      simp only [List.map_cons, atenU, if_neg hne, if_neg e]
      rw [atenU_map f g ha (fun i hi => hI i (by simp [hi])) hn2.2]
theorem atenD_map (f : Nat → List ACrd) {a : Nat} (ha : a < 33) : ∀ {I : List Nat}, (∀ i ∈ I, i < 33) → I.Nodup → atenD (I.map fun i => (nm i, f i)) (nm a) = (I.filter (fun i => decide (i ≠ a))).map fun i => (nm i, f i)
  | [], _, _ => rfl
  | i :: r, hI, hn => by
    have hn2 := List.nodup_cons.1 hn
    by_cases e : i = a
    · subst e
      have hf : r.filter (fun j => decide (j ≠ i)) = r := List.filter_eq_self.2 fun j hj => decide_eq_true (fun q : j = i => hn2.1 (q ▸ hj))
      rw [List.filter_cons_of_neg (by simp), hf]
      simp [atenD]
    · have hne : ¬ nm i = nm a := fun q => e (nm_inj (hI i (by simp)) ha q)
      rw [List.filter_cons_of_pos (by simpa using e)]
      simp only [List.map_cons, atenD, if_neg hne]
      rw [atenD_map f ha (fun i hi => hI i (by simp [hi])) hn2.2]
theorem ausr_no {n : ByteArray} : ∀ {us : List ACrd}, n ∉ us.map (·.user) → ausr us n = none
  | [], _ => rfl
  | c :: r, h => by
    simp only [List.map_cons, List.mem_cons, not_or] at h
    simp only [ausr, if_neg (fun q : c.user = n => h.1 q.symm)]
    exact ausr_no h.2
theorem ausr_yes {n : ByteArray} : ∀ {us : List ACrd}, n ∈ us.map (·.user) → ∃ c, ausr us n = some c ∧ c ∈ us
  | [], h => by cases h
  | c :: r, h => by
    by_cases e : c.user = n
    · exact ⟨c, by simp [ausr, e], by simp⟩
    · simp only [List.map_cons, List.mem_cons] at h
      obtain ⟨c', h1, h2⟩ := ausr_yes (us := r) (h.resolve_left (fun q => e q.symm))
      exact ⟨c', by simp [ausr, e, h1], by simp [h2]⟩
theorem ausrU_users {n : ByteArray} {f : ACrd → ACrd} (hf : ∀ c, (f c).user = c.user) : ∀ us : List ACrd, (ausrU us n f).map (·.user) = us.map (·.user)
  | [] => rfl
  | c :: r => by
    by_cases e : c.user = n
    · simp [ausrU, e, hf]
    · simp [ausrU, e, ausrU_users hf r]
theorem ausrU_get {n : ByteArray} {f : ACrd → ACrd} (hf : ∀ c, (f c).user = c.user) : ∀ us : List ACrd, ausr (ausrU us n f) n = (ausr us n).map f
  | [] => rfl
  | c :: r => by
    by_cases e : c.user = n
    · simp [ausrU, ausr, e, hf]
    · simp [ausrU, ausr, e, ausrU_get hf r]
theorem ausrD_sub {n x : ByteArray} : ∀ {us : List ACrd}, x ∈ (ausrD us n).map (·.user) → x ∈ us.map (·.user)
  | [], h => by cases h
  | c :: r, h => by
    by_cases e : c.user = n
    · simp only [ausrD, if_pos e] at h
      simp [h]
    · simp only [ausrD, if_neg e, List.map_cons, List.mem_cons] at h
      rcases h with h | h
      · simp [h]
      · have := ausrD_sub h
        simp only [List.map_cons, List.mem_cons]
        exact .inr this
theorem ausrD_len {n : ByteArray} : ∀ {us : List ACrd}, n ∈ us.map (·.user) → (ausrD us n).length + 1 = us.length
  | [], h => by cases h
  | c :: r, h => by
    by_cases e : c.user = n
    · simp [ausrD, e]
    · simp only [List.map_cons, List.mem_cons] at h
      have := ausrD_len (us := r) (h.resolve_left (fun q => e q.symm))
      simp only [ausrD, if_neg e, List.length_cons]
      omega
end Go.Proofs.YthkjfepbmnabkaaDoor.Sx

/- So many tenants, users, roles: what each call does. -/
namespace Go.Proofs.YthkjfepbmnabkaaDoor.Sx
open Go

def tsN (j : Nat) : ATs := (List.range j).map fun i => (nm i, [])
def tsA (a : Nat) (us : List ACrd) : ATs := (List.range 8).map fun i => (nm i, if i = a then us else [])
theorem range33 {k : Nat} (h : k ≤ 33) : ∀ i ∈ List.range k, i < 33 := fun i hi => by have := List.mem_range.1 hi; omega
theorem tsA_nil (a : Nat) : tsN 8 = tsA a [] := List.map_congr_left fun i _ => by simp
theorem tsA_get {a : Nat} (ha : a < 8) (us : List ACrd) : aten (tsA a us) (nm a) = some us := by
  have h := aten_map (fun i => if i = a then us else []) (a := a) (by omega) (range33 (k := 8) (by decide)) (List.mem_range.2 ha)
  simp only [if_true] at h
  exact h
theorem tsA_upd {a : Nat} (ha : a < 8) (us : List ACrd) (g : List ACrd → List ACrd) : atenU (tsA a us) (nm a) g = tsA a (g us) := by
  have h := atenU_map (fun i => if i = a then us else []) g (a := a) (by omega) (range33 (k := 8) (by decide)) List.nodup_range
  refine Eq.trans h (List.map_congr_left fun i _ => ?_)
  by_cases e : i = a <;> simp [e]
def I1 (j : Nat) (X : ASto) : Prop := X.ts = tsN (min j 8) ∧ X.last = 0
theorem step1 {j : Nat} {X : ASto} (hj : j < 8) (h : I1 j X) : ∃ X', addT X (nm j) = (0, X') ∧ I1 (j + 1) X' := by
  obtain ⟨h1, h2⟩ := h
  rw [Nat.min_eq_left (by omega)] at h1
  have hp := nm_plain ⟨j, by omega⟩
  simp only at hp
  have hn : aten X.ts (nm j) = none := by
    rw [h1]
    refine aten_no (fun _ => []) fun i hi q => ?_
    have hi' := List.mem_range.1 hi
    have := nm_inj (i := i) (j := j) (by omega) (by omega) q
    omega
  refine ⟨{ X with ts := X.ts ++ [(nm j, [])] }, ?_, ?_, h2⟩
  · unfold addT
    rw [hp, hn, if_neg (by decide), if_neg (by decide), if_neg (by rw [h1]; simp [tsN]; omega)]
  · rw [Nat.min_eq_left (by omega)]
    show X.ts ++ _ = _
    rw [h1, tsN, tsN, List.range_succ, List.map_append]
    rfl
theorem step1e {X : ASto} (h : I1 8 X) : addT X (nm 8) = (8, X) := by
  obtain ⟨h1, h2⟩ := h
  have hp := nm_plain ⟨8, by decide⟩
  simp only at hp
  have hn : aten X.ts (nm 8) = none := by
    rw [h1]
    refine aten_no (fun _ => []) fun i hi q => ?_
    have hi' := List.mem_range.1 hi
    have := nm_inj (i := i) (j := 8) (by omega) (by omega) q
    omega
  unfold addT
  rw [hp, hn, if_neg (by decide), if_neg (by decide), if_pos (by rw [h1]; simp [tsN])]
def I2 (a j : Nat) (X : ASto) : Prop := ∃ us, X.ts = tsA a us ∧ us.map (·.user) = (List.range (min j 32)).map nm ∧ X.last ≤ j ∧ ∀ c ∈ us, c.roles = []
theorem I2_of {a : Nat} {X : ASto} (h : I1 9 X) : I2 a 0 X := by
  obtain ⟨h1, h2⟩ := h
  exact ⟨[], by rw [h1]; exact tsA_nil a, rfl, by rw [h2]; exact Nat.le_refl _, fun c hc => by cases hc⟩
theorem nm_new {j k : Nat} (hj : j < 33) (hk : k ≤ j) {us : List ACrd} (h : us.map (·.user) = (List.range k).map nm) : ausr us (nm j) = none := by
  refine ausr_no ?_
  rw [h]
  intro q
  obtain ⟨i, hi, e⟩ := List.mem_map.1 q
  have hi' := List.mem_range.1 hi
  have := nm_inj (i := i) (j := j) (by omega) (by omega) e
  omega
theorem step2 {a j : Nat} {X : ASto} (ha : a < 8) (hj : j < 32) (h : I2 a j X) : ∃ X', addU X (nm a) (nm j) plainS = (0, X') ∧ I2 a (j + 1) X' := by
  obtain ⟨us, h1, h2, h3, h4⟩ := h
  rw [Nat.min_eq_left (by omega)] at h2
  have hn := nm_name ⟨j, by omega⟩
  simp only at hn
  have hl : us.length = j := by have := congrArg List.length h2; simpa using this
  have hno := nm_new (by omega) (Nat.le_refl _) h2
  refine ⟨{ X with ts := tsA a (us ++ [⟨nm a, nm j, plainS, X.last + 1, [], false⟩]), last := X.last + 1 }, ?_, us ++ [⟨nm a, nm j, plainS, X.last + 1, [], false⟩], rfl, ?_, by show X.last + 1 ≤ _; omega, ?_⟩
  · unfold addU
    rw [h1, tsA_get ha]
    simp only
    rw [hn]
    simp only
    rw [if_pos trivial, plain_right, if_neg (by decide), hno, if_neg (by decide), if_neg (by omega), if_neg (by unfold greatN; omega), tsA_upd ha]
  · rw [Nat.min_eq_left (by omega), List.map_append, h2, List.range_succ, List.map_append]
    rfl
  · intro c hc
    rcases List.mem_append.1 hc with hc | hc
    · exact h4 c hc
    · obtain rfl := List.mem_singleton.1 hc
      rfl
theorem step2e {a : Nat} {X : ASto} (ha : a < 8) (h : I2 a 32 X) : addU X (nm a) (nm 32) plainS = (8, X) := by
  obtain ⟨us, h1, h2, h3, h4⟩ := h
  rw [Nat.min_eq_left (by omega)] at h2
  have hn := nm_name ⟨32, by decide⟩
  simp only at hn
  have hl : us.length = 32 := by have := congrArg List.length h2; simpa using this
  have hno := nm_new (by decide) (Nat.le_refl _) h2
  unfold addU
  rw [h1, tsA_get ha]
  simp only
  rw [hn]
  simp only
  rw [if_pos trivial, plain_right, if_neg (by decide), hno, if_neg (by decide), if_pos (by omega)]
def I3 (a c j : Nat) (X : ASto) : Prop := ∃ us u, X.ts = tsA a us ∧ us.map (·.user) = (List.range 32).map nm ∧ X.last ≤ 33 + j ∧ ausr us (nm c) = some u ∧ u.roles = (List.range (min j 8)).map nm
theorem I3_of {a c : Nat} {X : ASto} (hc : c < 32) (h : I2 a 33 X) : I3 a c 0 X := by
  obtain ⟨us, h1, h2, h3, h4⟩ := h
  obtain ⟨u, e1, e2⟩ := ausr_yes (n := nm c) (us := us) (by rw [h2]; exact List.mem_map.2 ⟨c, List.mem_range.2 (by omega), rfl⟩)
  exact ⟨us, u, h1, h2, h3, e1, h4 u e2⟩
theorem I3.one {a c j : Nat} {X : ASto} (ha : a < 8) (hc : c < 32) (h : I3 a c j X) : ∃ u, aone X (nm a) (nm c) = some u ∧ u.roles = (List.range (min j 8)).map nm := by
  obtain ⟨us, u, h1, h2, h3, h4, h5⟩ := h
  have hn := nm_name ⟨c, by omega⟩
  simp only at hn
  refine ⟨u, ?_, h5⟩
  unfold aone aget
  rw [hn, if_pos rfl, h1, tsA_get ha]
  exact h4
theorem I3.less {a c j : Nat} {X : ASto} (ha : a < 8) (hc : c < 32) (hj : j ≤ 8) (h : I3 a c j X) : ∀ u, aone X (nm a) (nm c) = some u → u.roles.length ≤ 1000 ∧ ∀ r ∈ u.roles, Op.bytesLess r.toList (nm j).toList = true := by
  obtain ⟨u0, e1, e2⟩ := h.one ha hc
  intro u hu
  rw [e1] at hu
  obtain rfl := Option.some.inj hu
  rw [e2]
  refine ⟨by simp; omega, fun r hr => ?_⟩
  obtain ⟨i, hi, rfl⟩ := List.mem_map.1 hr
  have hi' := List.mem_range.1 hi
  exact nm_less ⟨i, by omega⟩ ⟨j, by omega⟩ (by show i < j; omega)
theorem step3 {a c j : Nat} {X : ASto} (ha : a < 8) (hc : c < 32) (hj : j < 8) (h : I3 a c j X) : ∃ X', grantE X (nm a) (nm c) (nm j) = (0, X') ∧ I3 a c (j + 1) X' := by
  obtain ⟨u0, e1, e2⟩ := h.one ha hc
  obtain ⟨us, u, h1, h2, h3, h4, h5⟩ := h
  have hp := nm_plain ⟨j, by omega⟩
  have hn := nm_name ⟨c, by omega⟩
  simp only at hp hn
  rw [Nat.min_eq_left (by omega)] at e2 h5
  refine ⟨updU X (nm a) (nm c) fun c => { c with roles := c.roles ++ [nm j] }, ?_, ausrU us (nm c) (fun c' => { { c' with roles := c'.roles ++ [nm j] } with gen := X.last + 1 }), { { u with roles := u.roles ++ [nm j] } with gen := X.last + 1 }, ?_, ?_, by show X.last + 1 ≤ _; omega, ?_, ?_⟩
  · unfold grantE
    rw [e1]
    simp only
    rw [hp, if_neg (by decide), if_neg (by rw [e2]; simp; omega), if_neg (by unfold greatN; omega)]
  · unfold updU
    simp only
    rw [h1, tsA_upd ha, hn]
  · exact (ausrU_users (f := fun c' : ACrd => { { c' with roles := c'.roles ++ [nm j] } with gen := X.last + 1 }) (fun _ => rfl) us).trans h2
  · exact (ausrU_get (f := fun c' : ACrd => { { c' with roles := c'.roles ++ [nm j] } with gen := X.last + 1 }) (fun _ => rfl) us).trans (by rw [h4, Option.map_some])
  · rw [Nat.min_eq_left (by omega)]
    show u.roles ++ [nm j] = _
    rw [h5, List.range_succ, List.map_append]
    rfl
theorem step3e {a c : Nat} {X : ASto} (ha : a < 8) (hc : c < 32) (h : I3 a c 8 X) : grantE X (nm a) (nm c) (nm 8) = (8, X) := by
  obtain ⟨u0, e1, e2⟩ := h.one ha hc
  have hp := nm_plain ⟨8, by decide⟩
  simp only at hp
  unfold grantE
  rw [e1]
  simp only
  rw [hp, if_neg (by decide), if_pos (by rw [e2]; simp)]
structure Mst (a : Nat) (us : List ACrd) (X : ASto) : Prop where
  ts : X.ts = tsA a us
  last : X.last ≤ 50
  len : us.length = 31
  zz : zzT ∉ us.map (·.user)
theorem drop_m {a c : Nat} {X : ASto} (ha : a < 8) (hc : c < 32) (h : I3 a c 9 X) : ∃ X' us, dropU X (nm a) (nm c) = (0, X') ∧ Mst a us X' := by
  obtain ⟨u0, e1, e2⟩ := h.one ha hc
  obtain ⟨us, u, h1, h2, h3, h4, h5⟩ := h
  have hn := nm_name ⟨c, by omega⟩
  simp only at hn
  have hl : us.length = 32 := by have := congrArg List.length h2; simpa using this
  refine ⟨{ X with ts := tsA a (ausrD us (nm c)) }, ausrD us (nm c), ?_, rfl, by show X.last ≤ 50; omega, ?_, ?_⟩
  · unfold dropU
    rw [e1]
    simp only
    rw [h1, tsA_upd ha, hn]
  · have := ausrD_len (n := nm c) (us := us) (by rw [h2]; exact List.mem_map.2 ⟨c, List.mem_range.2 (by omega), rfl⟩)
    omega
  · intro q
    have q2 := ausrD_sub q
    rw [h2] at q2
    obtain ⟨i, _, e⟩ := List.mem_map.1 q2
    exact nm_zz i e
theorem add_m {a : Nat} {us : List ACrd} {X : ASto} (ha : a < 8) (h : Mst a us X) : ∃ X' us', addU X (nm a) zzT plainS = (0, X') ∧ X'.ts = tsA a us' := by
  refine ⟨{ X with ts := tsA a (us ++ [⟨nm a, zzT, plainS, X.last + 1, [], false⟩]), last := X.last + 1 }, _, ?_, rfl⟩
  have h1 := h.last
  have h2 := h.len
  unfold addU
  rw [h.ts, tsA_get ha]
  simp only
  rw [zz_name]
  simp only
  rw [if_pos trivial, plain_right, if_neg (by decide), ausr_no h.zz, if_neg (by decide), if_neg (by omega), if_neg (by unfold greatN; omega), tsA_upd ha]
def tsD (a : Nat) : ATs := ((List.range 8).filter (fun i => decide (i ≠ a))).map fun i => (nm i, [])
theorem dropT_m {a : Nat} {us : List ACrd} {X : ASto} (ha : a < 8) (h : X.ts = tsA a us) : ∃ X', dropT X (nm a) = (0, X') ∧ X'.ts = tsD a := by
  refine ⟨{ X with ts := tsD a }, ?_, rfl⟩
  unfold dropT
  rw [h, tsA_get ha]
  simp only
  have e := atenD_map (fun i => if i = a then us else []) (a := a) (by omega) (range33 (k := 8) (by decide)) List.nodup_range
  have e2 : atenD (tsA a us) (nm a) = tsD a := by
    refine Eq.trans e (List.map_congr_left fun i hi => ?_)
    have hne := of_decide_eq_true (List.mem_filter.1 hi).2
    simp only [if_neg hne]
  rw [e2]
theorem filt7 : ∀ a : _root_.Fin 8, ((List.range 8).filter (fun i => decide (i ≠ a.1))).length = 7 := by decide
theorem addT_m {a : Nat} {X : ASto} (ha : a < 8) (h : X.ts = tsD a) : ∃ X', addT X zzT = (0, X') ∧ X'.ts = tsD a ++ [(zzT, [])] := by
  have hf := filt7 ⟨a, ha⟩
  simp only at hf
  refine ⟨{ X with ts := X.ts ++ [(zzT, [])] }, ?_, by show X.ts ++ _ = _; rw [h]⟩
  have hn : aten X.ts zzT = none := by
    rw [h]
    exact aten_no (fun _ => []) fun i _ => nm_zz i
  unfold addT
  rw [zz_plain, hn, if_neg (by decide), if_neg (by decide), if_neg (by rw [h, tsD, List.length_map, hf]; decide)]
theorem end_ok {a : Nat} (ha : a < 8) {S : Sto} (h : S.a.ts = tsD a ++ [(zzT, [])]) : KeysOk S.ml ∧ S.ts.length ≤ 1000 ∧ ∀ T ∈ S.ts, T.us = [] := by
  have hf := filt7 ⟨a, ha⟩
  simp only at hf
  have hn : S.ml.map (·.1) = ((List.range 8).filter (fun i => decide (i ≠ a))).map nm ++ [zzT] := by
    have e : S.ml.map (·.1) = S.a.ts.map (·.1) := by simp [Sto.ml, Sto.a, Ten.a]
    rw [e, h, tsD]
    simp
  have hmem : ∀ x ∈ S.ml.map (·.1), x.size ≤ 100000 := by
    rw [hn]
    intro x hx
    rcases List.mem_append.1 hx with hx | hx
    · obtain ⟨i, _, rfl⟩ := List.mem_map.1 hx
      exact nm_size i
    · obtain rfl := List.mem_singleton.1 hx
      decide
  refine ⟨⟨?_, fun p hp => ?_⟩, ?_, fun T hT => ?_⟩
  · rw [hn]
    refine List.nodup_append.2 ⟨?_, by simp, ?_⟩
    · refine List.pairwise_map.2 ((List.nodup_range (n := 8)).filter _ |>.imp_of_mem fun {i j} hi hj hne q => hne ?_)
      have hi' := List.mem_range.1 (List.mem_filter.1 hi).1
      have hj' := List.mem_range.1 (List.mem_filter.1 hj).1
      exact nm_inj (by omega) (by omega) q
    · intro x hx y hy q
      obtain rfl := List.mem_singleton.1 hy
      obtain ⟨i, _, rfl⟩ := List.mem_map.1 hx
      exact nm_zz i q
  · have := hmem p.1 (List.mem_map.2 ⟨p, hp, rfl⟩)
    have := maxLen_eq
    omega
  · have e : S.ts.length = S.a.ts.length := by simp [Sto.a]
    rw [e, h]
    simp only [tsD, List.length_append, List.length_map, hf]
    decide
  · have hm : T.a ∈ S.a.ts := List.mem_map.2 ⟨T, hT, rfl⟩
    have h2 : T.a.2 = [] := by
      rw [h] at hm
      rcases List.mem_append.1 hm with hm | hm
      · obtain ⟨i, _, e⟩ := List.mem_map.1 hm
        rw [← e]
      · rw [List.mem_singleton.1 hm]
    exact List.map_eq_nil_iff.1 h2
end Go.Proofs.YthkjfepbmnabkaaDoor.Sx

/- Digits, by the reference. -/
namespace Go.Proofs.YthkjfepbmnabkaaDoor.Sx
open Go
attribute [local irreducible] Calls

def digS : ByteArray := ⟨#[48, 49, 50, 51, 52, 53, 54, 55, 56, 57, 97, 98, 99, 100, 101, 102]⟩
theorem dig_at {k : Nat} (h : k < 16) : digS.extract k (k + 1) = mkS [dgs.getD k 0] := by
  have key : ∀ k : _root_.Fin 16, (digS.extract k.1 (k.1 + 1)).data.toList = [dgs.getD k.1 0] := by decide +kernel
  have := key ⟨k, h⟩
  simp only at this
  have e : digS.extract k (k + 1) = ⟨(digS.extract k (k + 1)).data.toList.toArray⟩ := by cases digS.extract k (k + 1); simp
  rw [e, this]
  rfl
theorem mkS_app (a b : List UInt8) : mkS a ++ mkS b = mkS (a ++ b) := by
  have h : (mkS a ++ mkS b).data.toList = (mkS (a ++ b)).data.toList := by simp [mkS]
  have e : ∀ s : ByteArray, s = ⟨s.data.toList.toArray⟩ := fun s => by cases s; simp
  rw [e (mkS a ++ mkS b), h, ← e]
theorem hexB_snoc2 (l : List UInt8) (x : UInt8) : hexB (l ++ [x]) = hexB l ++ ([dgs.getD (x.toNat / 16) 0] ++ [dgs.getD (x.toNat % 16) 0]) := by rw [hexB_snoc]; simp
theorem rhex_c (w : World) (A : Option Addr) (l : List UInt8) (c : Nat) (hr : Bs w A l) (hn : l.length ≤ 1000000) : Pu Tryd.prog n_ostiaryref01_Hex #[.slice A l.length c] w (.string (mkS (hexB l))) := by
  have g := good_ostiaryref01_Hex w (Un [])
  have hml := maxLen_eq
  refine con_of_sx (cx := cx_ostiaryref01_Hex w (Un [])) g b_ostiaryref01_Hex rfl rfl (β := Va.z) [.c (.v (.slice A l.length c))] 0 [] [oldF w] rfl rfl (old_sat rfl) ?_
  refine loop_rule 0 (fun k : Nat => [(3, .c (.v (.string (mkS (hexB (l.take k)))))), (6, .c (.v (.slice A l.length c))), (7, .c (.v (.int .i64 l.length))), (8, .c (.v (.int .i64 (k : Int))))]) (fun _ => []) (fun _ => [oldF w])
    (fun k => k ≤ l.length) (fun k => l.length - k) 0 (Nat.zero_le _) (Ent.same ⟨rfl, rfl, rfl, rfl, trivial⟩ rfl) g ?_
  intro k hk
  refine BIf.dec (fun hlt => ?_) (fun hge => ?_)
  · have hlt0 : (k : Int) < l.length := hlt
    have hkl : k < l.length := by omega
    obtain ⟨x, hx, hxm⟩ := at_lt hkl
    obtain ⟨ad, hA, _⟩ := hr.2 (by omega)
    have hsn : l.take (k + 1) = l.take k ++ [x] := by rw [List.take_add_one, hx]; rfl
    obtain ⟨m, hm⟩ : ∃ m, x.toNat = m := ⟨_, rfl⟩
    have hm256 : m < 256 := by rw [← hm]; exact x.toNat_lt
    have hhl : (hexB (l.take k)).length = 2 * k := by rw [hexB_len, List.length_take]; omega
    refine ⟨ad, k, hA, rfl, hkl, .int .u8 (m : Int), fun β w' hs => ?_, ?_⟩
    · have h := Rd.old hr (hs.get 0 rfl)
      rw [hA] at h
      rw [← hm]
      exact Rd.cell1 (u := byte x) h (by rw [List.getElem?_map, hx]; rfl)
    refine draw_rule g p_ostiaryref01_Hex_5 (by kernel_rfl) [] [oldF w] Sub.refl ?_
    have e1 : IntKind.u8.wrap ((m : Int).tdiv 16) = ((m / 16 : Nat) : Int) := by
      show IntKind.u8.wrap ((m : Int).tdiv ((16 : Nat) : Int)) = _
      rw [← Int.ofNat_tdiv, wrap_u8]
      omega
    have e2 : (m : Int).tmod 16 = ((m % 16 : Nat) : Int) := (Int.ofNat_tmod m 16).symm
    refine ⟨by decide, _, e1, by decide, _, e1, ((m / 16 + 1 : Nat) : Int), by rw [wrap_u8]; omega, ?_⟩
    refine ⟨m / 16 + 1, m / 16, rfl, rfl, by show m / 16 + 1 ≤ 16; omega, by omega, ?_⟩
    refine ⟨by decide, _, e2, by decide, _, e2, ((m % 16 + 1 : Nat) : Int), by rw [wrap_u8]; omega, ?_⟩
    refine ⟨m % 16 + 1, m % 16, rfl, rfl, by show m % 16 + 1 ≤ 16; omega, by omega, ?_⟩
    have z1 : (digS.extract (m / 16) (m / 16 + 1)).size ≤ 1 := by rw [ByteArray.size_extract]; omega
    have z2 : (digS.extract (m % 16) (m % 16 + 1)).size ≤ 1 := by rw [ByteArray.size_extract]; omega
    have z3 : (mkS (hexB (l.take k))).size ≤ 2000000 := by show (hexB (l.take k)).toArray.size ≤ _; rw [List.size_toArray]; omega
    have hf : mkS (hexB (l.take k)) ++ (digS.extract (m / 16) (m / 16 + 1) ++ digS.extract (m % 16) (m % 16 + 1)) = mkS (hexB (l.take (k + 1))) := by
      rw [dig_at (by omega), dig_at (by omega), mkS_app, mkS_app, hsn, hexB_snoc2, hm]
    refine ⟨by show (digS.extract (m / 16) (m / 16 + 1)).size + (digS.extract (m % 16) (m % 16 + 1)).size ≤ maxLen; omega, by show (mkS (hexB (l.take k))).size + (digS.extract (m / 16) (m / 16 + 1) ++ digS.extract (m % 16) (m % 16 + 1)).size ≤ maxLen; rw [ByteArray.size_append]; omega, ?_⟩
    refine ⟨((k + 1 : Nat) : Int), by rw [wrap_i64 (by omega) (by omega)]; rfl, ?_⟩
    refine ⟨k + 1, by omega, by omega, ?_⟩
    rw [← hf]
    exact Ent.same ⟨rfl, rfl, rfl, rfl, trivial⟩ rfl
  · have hge0 : ¬ (k : Int) < l.length := hge
    obtain rfl : k = l.length := by omega
    rw [List.take_length]
    intro β w' hs
    exact hs.fin [] ⟨rfl, rfl⟩
end Go.Proofs.YthkjfepbmnabkaaDoor.Sx

/- Statements one by one: so that a rule stands at each. -/
namespace Go.Proofs.YthkjfepbmnabkaaDoor.Sx
open Go

section
variable {cx : Cx} {n : Nat} {H : List Bk} {F : List Fact} {w : World}
end
end Go.Proofs.YthkjfepbmnabkaaDoor.Sx

/- CredMost. -/
namespace Go.Proofs.YthkjfepbmnabkaaDoor.Sx
open Go
attribute [local irreducible] Calls

theorem names_c (w : World) (k : Nat) (hk : k < 256) : Pu Tryd.prog n_ostiarylaw14_CredMost_1 #[.int .i64 (k : Int)] w (.string (nm k)) := by
  have hml := maxLen_eq
  refine con_of_sx (cx := cx_ostiarylaw14_CredMost_1 w (Un [])) (good_ostiarylaw14_CredMost_1 w (Un [])) b_ostiarylaw14_CredMost_1 rfl rfl (β := Va.z) [.c (.v (.int .i64 (k : Int)))] 0 [] [] rfl rfl (Sat.start rfl) ?_
  refine ⟨(k : Int), by rw [wrap_u8]; omega, ?_⟩
  intro b
  have hb : (UInt8.ofNat k).toNat = k := by simp; omega
  refine call_pu (v := .string (mkS (hexB [UInt8.ofNat k]))) (fun β w' hs => by
    have h := row_rd (hs.get 0 rfl)
    refine rhex_c w' (some ⟨b, 0, none⟩) [UInt8.ofNat k] 1 ?_ (by show 1 ≤ 1000000; decide)
    have e : [Value.int .u8 (k : Int)] = [UInt8.ofNat k].map byte := by simp [byte, hb]
    rw [e] at h
    exact h) ?_
  have hz : (mkS (hexB [UInt8.ofNat k])).size = 2 := by show (hexB [UInt8.ofNat k]).toArray.size = 2; rw [List.size_toArray, hexB_len]; rfl
  refine ⟨by show 1 + (mkS (hexB [UInt8.ofNat k])).size ≤ maxLen; omega, ?_⟩
  intro β w' hs
  refine (hs.keepB (List.nil_sublist _)).fin [] ⟨?_, rfl⟩
  show Value.string (mkS [110] ++ mkS (hexB [UInt8.ofNat k])) = _
  rw [mkS_app]
  rfl
end Go.Proofs.YthkjfepbmnabkaaDoor.Sx

/- CredMost: the walk. -/
namespace Go.Proofs.YthkjfepbmnabkaaDoor.Sx
open Go
attribute [local irreducible] Calls

theorem BIf.ff {P Q : Prop} {b : Bool} (hb : b = false) (h : Q) : BIf P Q b := by subst hb; exact h
set_option maxHeartbeats 8000000 in
theorem credMost_c (w : World) (n : Nat) (hn : n < 256) (hm : Mem w [namF]) :
    Con Tryd.prog n_ostiarylaw14_CredMost #[.int .u8 (n : Int)] w [] fun v Fs => v = .bool true ∧ Fs = [] := by
  have g := good_ostiarylaw14_CredMost w (Un [])
  have hs0 : Sat (cx_ostiarylaw14_CredMost w (Un [])) Va.z 0 [] [namF] w := hm.sat0 rfl (ownIn (Gs := []) (fun f hf => by
    obtain rfl := List.mem_singleton.1 hf; rfl))
  refine con_of_sx (cx := cx_ostiarylaw14_CredMost w (Un [])) g b_ostiarylaw14_CredMost rfl rfl (β := Va.z) [.c (.v (.int .u8 (n : Int)))] 0 [] _ rfl rfl hs0 ?_
  refine call_pu (fun β w' hs => awake14_c w' (hs.mem.take (js := [0]) rfl)) ?_
  refine call_con [] (fun β w' hs => cnew_c w') ?_
  rintro v Fs ⟨b, m, rfl, rfl⟩
  refine loop_rule (ι := Nat × Sto) 0 (fun i => [(0, .c (.v (.int .u8 (n : Int)))), (3, .c (.v (ptr b))), (4, .c (.v (.func (.func n_ostiarylaw14_CredMost_1) #[] #[]))), (16, .c (.v (.int .i64 (i.1 : Int))))]) (fun _ => []) (fun i => [stoF i.2, namF])
    (fun i => I1 i.1 i.2.a ∧ i.2.b = b ∧ i.1 ≤ 9) (fun i => 9 - i.1) (0, sto0 b m) ⟨⟨rfl, rfl⟩, rfl, Nat.zero_le _⟩ (Ent.same ⟨rfl, rfl, rfl, rfl, trivial⟩ rfl) g ?_
  rintro ⟨j, S⟩ ⟨hI, hb, hj⟩
  simp only at hI hb hj
  subst hb
  refine BIf.dec (fun hlt => ?_) (fun hge => ?_)
  · have hlt0 : (j : Int) < 9 := hlt
    have hj9 : j < 9 := by omega
    refine call_pu (fun β w' hs => names_c w' j (by omega)) ?_
    by_cases h8 : j < 8
    · obtain ⟨X', e1, e2⟩ := step1 h8 hI
      refine call_con [0] (R := stoOut S (0, X')) (fun β w' hs => by
        have h := addTenant_c w' S (nm j) (nm_size j) (hs.mem.take (js := [0]) rfl)
        rw [e1] at h
        exact h) ?_
      rintro v Fs ⟨S', rfl, ha, hb', rfl⟩
      refine BIf.ff (by have h9 : ¬ ((j : Int) = 8) := by omega
                        simp [h9]) ?_
      refine ⟨((j + 1 : Nat) : Int), by rw [wrap_i64 (by omega) (by omega)]; rfl, ?_⟩
      refine ⟨(j + 1, S'), ⟨by show I1 (j + 1) S'.a; rw [ha]; exact e2, hb', by show j + 1 ≤ 9; omega⟩, by show 9 - (j + 1) < 9 - j; omega, Ent.same ⟨rfl, rfl, rfl, rfl, trivial⟩ rfl⟩
    · obtain rfl : j = 8 := by omega
      have e1 := step1e hI
      refine call_con [0] (R := stoOut S (8, S.a)) (fun β w' hs => by
        have h := addTenant_c w' S (nm 8) (nm_size 8) (hs.mem.take (js := [0]) rfl)
        rw [e1] at h
        exact h) ?_
      rintro v Fs ⟨S', rfl, ha, hb', rfl⟩
      refine ⟨((8 + 1 : Nat) : Int), by rw [wrap_i64 (by omega) (by omega)]; rfl, ?_⟩
      refine ⟨(8 + 1, S'), ⟨by show I1 (8 + 1) S'.a; rw [ha]; exact hI, hb', by show 8 + 1 ≤ 9; omega⟩, by show 9 - (8 + 1) < 9 - 8; omega, Ent.same ⟨rfl, rfl, rfl, rfl, trivial⟩ rfl⟩
  have hge0 : ¬ (j : Int) < 9 := hge
  obtain rfl : j = 9 := by omega
  clear hge hge0 hj
  obtain ⟨b, hbb⟩ : ∃ b, S.b = b := ⟨_, rfl⟩
  rw [hbb]
  -- region 12
  obtain ⟨a, hade⟩ : ∃ a, n % 8 = a := ⟨_, rfl⟩
  have ha : a < 8 := by omega
  have hn8 : (n : Int).tmod 8 = (a : Int) := by rw [← hade]; exact (Int.ofNat_tmod n 8).symm
  refine ⟨(n : Int), by rw [wrap_i64 (by omega) (by omega)], by decide, (a : Int), hn8, ?_⟩
  refine call_pu (fun β w' hs => names_c w' a (by omega)) ?_
  refine loop_rule (ι := Nat × Sto) 0 (fun i => [(0, .c (.v (.int .u8 (n : Int)))), (3, .c (.v (ptr b))), (4, .c (.v (.func (.func n_ostiarylaw14_CredMost_1) #[] #[]))), (7, .c (.v (.string (nm a)))), (43, .c (.v (.int .i64 (i.1 : Int))))]) (fun _ => []) (fun i => [stoF i.2, namF])
    (fun i => I2 a i.1 i.2.a ∧ i.2.b = b ∧ i.1 ≤ 33) (fun i => 33 - i.1) (0, S) ⟨I2_of hI, hbb, Nat.zero_le _⟩ (Ent.same ⟨rfl, rfl, rfl, rfl, rfl, trivial⟩ rfl) g ?_
  clear hI hbb S
  rintro ⟨j, S⟩ ⟨hI, hb, hj⟩
  simp only at hI hb hj
  subst hb
  refine BIf.dec (fun hlt => ?_) (fun hge => ?_)
  · have hlt0 : (j : Int) < 33 := hlt
    have hj9 : j < 33 := by omega
    refine call_pu (fun β w' hs => names_c w' j (by omega)) ?_
    refine call_con [] (fun β w' hs => plain14_c w') ?_
    rintro v Fs ⟨b0, b1, b2, b3, rfl, rfl⟩
    by_cases h8 : j < 32
    · obtain ⟨X', e1, e2⟩ := step2 ha h8 hI
      refine call_con [4] (R := stoOut S (0, X')) (fun β w' hs => by
        have h := add_c w' S (nm a) (nm j) (plainX b0 b1 b2 b3) plainS (nm_size j) plainSz (((hs.plainF [0, 1, 2, 3] rfl).perm [1, 0, 2]).mem.take (js := [0, 1, 2]) rfl)
        rw [e1] at h
        exact h) ?_
      rintro v Fs ⟨S', rfl, hX, hb', rfl⟩
      refine BIf.ff (by have h9 : ¬ ((j : Int) = 32) := by omega
                        simp [h9]) ?_
      refine ⟨((j + 1 : Nat) : Int), by rw [wrap_i64 (by omega) (by omega)]; rfl, ?_⟩
      refine ⟨(j + 1, S'), ⟨by show I2 a (j + 1) S'.a; rw [hX]; exact e2, hb', by show j + 1 ≤ 33; omega⟩, by show 33 - (j + 1) < 33 - j; omega, Ent.mk' ⟨rfl, rfl, rfl, rfl, rfl, trivial⟩ rfl (fun β w' hs => hs.perm [0, 5])⟩
    · obtain rfl : j = 32 := by omega
      have e1 := step2e ha hI
      refine call_con [4] (R := stoOut S (8, S.a)) (fun β w' hs => by
        have h := add_c w' S (nm a) (nm 32) (plainX b0 b1 b2 b3) plainS (nm_size 32) plainSz (((hs.plainF [0, 1, 2, 3] rfl).perm [1, 0, 2]).mem.take (js := [0, 1, 2]) rfl)
        rw [e1] at h
        exact h) ?_
      rintro v Fs ⟨S', rfl, hX, hb', rfl⟩
      refine ⟨((32 + 1 : Nat) : Int), by rw [wrap_i64 (by omega) (by omega)]; rfl, ?_⟩
      refine ⟨(32 + 1, S'), ⟨?_, hb', by show 32 + 1 ≤ 33; omega⟩, by show 33 - (32 + 1) < 33 - 32; omega, Ent.mk' ⟨rfl, rfl, rfl, rfl, rfl, trivial⟩ rfl (fun β w' hs => hs.perm [0, 5])⟩
      show I2 a (32 + 1) S'.a
      rw [hX]
      obtain ⟨us, q1, q2, q3, q4⟩ := hI
      exact ⟨us, q1, q2, by show S.a.last ≤ _; omega, q4⟩
  have hge0 : ¬ (j : Int) < 33 := hge
  obtain rfl : j = 33 := by omega
  clear hge hge0 hj
  obtain ⟨b, hbb⟩ : ∃ b, S.b = b := ⟨_, rfl⟩
  rw [hbb]
  -- region 20
  obtain ⟨c, hcde⟩ : ∃ c, n % 32 = c := ⟨_, rfl⟩
  have hc : c < 32 := by omega
  have hn32 : (n : Int).tmod 32 = (c : Int) := by rw [← hcde]; exact (Int.ofNat_tmod n 32).symm
  refine ⟨(n : Int), by rw [wrap_i64 (by omega) (by omega)], by decide, (c : Int), hn32, ?_⟩
  refine call_pu (fun β w' hs => names_c w' c (by omega)) ?_
  refine loop_rule (ι := Nat × Sto) 0 (fun i => [(0, .c (.v (.int .u8 (n : Int)))), (3, .c (.v (ptr b))), (4, .c (.v (.func (.func n_ostiarylaw14_CredMost_1) #[] #[]))), (7, .c (.v (.string (nm a)))), (10, .c (.v (.string (nm c)))), (72, .c (.v (.int .i64 (i.1 : Int))))]) (fun _ => []) (fun i => [stoF i.2, namF])
    (fun i => I3 a c i.1 i.2.a ∧ i.2.b = b ∧ i.1 ≤ 9) (fun i => 9 - i.1) (0, S) ⟨I3_of hc hI, hbb, Nat.zero_le _⟩ (Ent.same ⟨rfl, rfl, rfl, rfl, rfl, rfl, trivial⟩ rfl) g ?_
  clear hI hbb S
  rintro ⟨j, S⟩ ⟨hI, hb, hj⟩
  simp only at hI hb hj
  subst hb
  refine BIf.dec (fun hlt => ?_) (fun hge => ?_)
  · have hlt0 : (j : Int) < 9 := hlt
    have hj9 : j < 9 := by omega
    refine call_pu (fun β w' hs => names_c w' j (by omega)) ?_
    by_cases h8 : j < 8
    · obtain ⟨X', e1, e2⟩ := step3 ha hc h8 hI
      refine call_con [0] (R := stoOut S (0, X')) (fun β w' hs => by
        have h := grantE_c w' S (nm a) (nm c) (nm j) (nm_size c) (nm_size j) (hI.less ha hc (by omega)) (hs.mem.take (js := [0, 1]) rfl)
        rw [e1] at h
        exact h) ?_
      rintro v Fs ⟨S', rfl, hX, hb', rfl⟩
      refine BIf.ff (by have h9 : ¬ ((j : Int) = 8) := by omega
                        simp [h9]) ?_
      refine ⟨((j + 1 : Nat) : Int), by rw [wrap_i64 (by omega) (by omega)]; rfl, ?_⟩
      refine ⟨(j + 1, S'), ⟨by show I3 a c (j + 1) S'.a; rw [hX]; exact e2, hb', by show j + 1 ≤ 9; omega⟩, by show 9 - (j + 1) < 9 - j; omega, Ent.same ⟨rfl, rfl, rfl, rfl, rfl, rfl, trivial⟩ rfl⟩
    · obtain rfl : j = 8 := by omega
      have e1 := step3e ha hc hI
      refine call_con [0] (R := stoOut S (8, S.a)) (fun β w' hs => by
        have h := grantE_c w' S (nm a) (nm c) (nm 8) (nm_size c) (nm_size 8) (hI.less ha hc (by omega)) (hs.mem.take (js := [0, 1]) rfl)
        rw [e1] at h
        exact h) ?_
      rintro v Fs ⟨S', rfl, hX, hb', rfl⟩
      refine ⟨((8 + 1 : Nat) : Int), by rw [wrap_i64 (by omega) (by omega)]; rfl, ?_⟩
      refine ⟨(8 + 1, S'), ⟨?_, hb', by show 8 + 1 ≤ 9; omega⟩, by show 9 - (8 + 1) < 9 - 8; omega, Ent.same ⟨rfl, rfl, rfl, rfl, rfl, rfl, trivial⟩ rfl⟩
      show I3 a c (8 + 1) S'.a
      rw [hX]
      obtain ⟨us, u, q1, q2, q3, q4, q5⟩ := hI
      exact ⟨us, u, q1, q2, by show S.a.last ≤ _; omega, q4, q5⟩
  have hge0 : ¬ (j : Int) < 9 := hge
  obtain rfl : j = 9 := by omega
  clear hge hge0 hj
  -- region 28
  obtain ⟨X1, us1, e1, h1⟩ := drop_m ha hc hI
  refine call_con [0] (R := stoOut S (0, X1)) (fun β w' hs => by
    have h := drop_c w' S (nm a) (nm c) (nm_size c) (hs.mem.take (js := [0, 1]) rfl)
    rw [e1] at h
    exact h) ?_
  rintro v Fs ⟨S1, rfl, hX1, hb1, rfl⟩
  simp only at hX1
  refine call_con [] (fun β w' hs => plain14_c w') ?_
  rintro v Fs ⟨b0, b1, b2, b3, rfl, rfl⟩
  obtain ⟨X2, us2, e2, h2⟩ := add_m ha h1
  rw [← hX1] at e2
  rw [← hb1]
  refine call_con [4] (R := stoOut S1 (0, X2)) (fun β w' hs => by
    have h := add_c w' S1 (nm a) zzT (plainX b0 b1 b2 b3) plainS (by decide) plainSz (((hs.plainF [0, 1, 2, 3] rfl).perm [1, 0, 2]).mem.take (js := [0, 1, 2]) rfl)
    rw [e2] at h
    exact h) ?_
  rintro v Fs ⟨S2, rfl, hX2, hb2, rfl⟩
  simp only at hX2
  obtain ⟨X3, e3, h3⟩ := dropT_m ha h2
  rw [← hX2] at e3
  rw [← hb2]
  refine call_con [0] (R := stoOut S2 (0, X3)) (fun β w' hs => by
    have h := dropTenant_c w' S2 (nm a) (hs.mem.take (js := [0]) rfl)
    rw [e3] at h
    exact h) ?_
  rintro v Fs ⟨S3, rfl, hX3, hb3, rfl⟩
  simp only at hX3
  obtain ⟨X4, e4, h4⟩ := addT_m ha h3
  rw [← hX3] at e4
  rw [← hb3]
  refine call_con [0] (R := stoOut S3 (0, X4)) (fun β w' hs => by
    have h := addTenant_c w' S3 zzT (by decide) (hs.mem.take (js := [0]) rfl)
    rw [e4] at h
    exact h) ?_
  rintro v Fs ⟨S4, rfl, hX4, hb4, rfl⟩
  simp only at hX4
  rw [← hb4]
  obtain ⟨k1, k2, k3⟩ := end_ok ha (S := S4) (by rw [hX4]; exact h4)
  refine call_con [0] (fun β w' hs => users0_c w' S4 k1 k2 k3 (hs.mem.take (js := [0]) rfl)) ?_
  rintro v Fs ⟨rfl, rfl⟩
  intro β w' hs
  exact (hs.keepB (List.nil_sublist _)).fin [] ⟨rfl, rfl⟩
end Go.Proofs.YthkjfepbmnabkaaDoor.Sx

/- What a statement's proof has of its arguments, in this executor's words. -/
namespace Go.Proofs.YthkjfepbmnabkaaDoor.Sx
open Go Go.RowKit

theorem below_of {w w' : World} (h : Chg None_ w w') : Below w.heap.size w w' :=
  ⟨h.os, h.tape, h.output, h.size, fun k hk => h.same k hk (fun q => q)⟩
end Go.Proofs.YthkjfepbmnabkaaDoor.Sx

/- Tables that are laid: what their cells are. -/
namespace Go.Proofs.YthkjfepbmnabkaaDoor.Sx
open Go

end Go.Proofs.YthkjfepbmnabkaaDoor.Sx

/- Tables that are laid, of any plain types: their cells are what they hold, in order. -/
namespace Go.Proofs.YthkjfepbmnabkaaDoor.Sx
open Go

mutual
def lits {H : Type} : DataW H → Option (List Value)
  | .lit (.int k n) => some [.int k n]
  | .lit (.bool b) => some [.bool b]
  | .lit (.string l) => some [.string ⟨l.toArray⟩]
  | .agg ps => litsL ps
  | _ => none
def litsL {H : Type} : List (DataW H) → Option (List Value)
  | [] => some []
  | d :: r => match lits d, litsL r with
    | some a, some b => some (a ++ b)
    | _, _ => none
end
def contig (P : Program) : List Field → Nat → Option Nat
  | [], o => some o
  | f :: r, o => if f.offset = o then contig P r (o + P.cellsOf f.type) else none
def flatB (P : Program) : Nat → TypeId → Bool
  | 0, _ => false
  | n + 1, t => match P.underlying t with
    | some (.int _) | some .bool | some .string => true
    | some (.struct fs) => (match contig P fs.toList 0 with | some e => Nat.beq e (P.cellsOf t) | none => false) && fs.toList.all fun f => flatB P n f.type
    | some (.array m e) => Nat.beq (m * P.cellsOf e) (P.cellsOf t) && flatB P n e
    | _ => false
section
variable {H : Type} {enc : TypeId × Value → H} {P : Program} {w : World} {base : Nat} {sp : Nat → Bool} {held : Bool}
theorem fields_cat (m : Nat) (cs : List Value) : ∀ (fs : List Field) (xs : List (DataW H × List MemPlace)) (o e : Nat), contig P fs o = some e → xs.length = fs.length →
    (∀ (i : Nat) (f : Field), fs[i]? = some f → DataW.trod enc P w base sp held m f.type ((cs.drop f.offset).take (P.cellsOf f.type)) = xs[i]?) →
    (∀ f ∈ fs, ∀ cs' x, DataW.trod enc P w base sp held m f.type cs' = some x → lits x.1 = some cs') → o ≤ e ∧ litsL (xs.map (·.1)) = some ((cs.drop o).take (e - o))
  | [], xs, o, e, hc, hl, _, _ => by
    obtain rfl := Option.some.inj hc
    obtain rfl := List.eq_nil_of_length_eq_zero hl
    exact ⟨Nat.le_refl _, by simp [litsL]⟩
  | f :: r, [], o, e, hc, hl, _, _ => by cases hl
  | f :: r, x :: xs, o, e, hc, hl, h, ih => by
    simp only [contig] at hc
    split at hc
    · rename_i ho
      have h0 := h 0 f rfl
      rw [ho] at h0
      have h1 := ih f List.mem_cons_self _ x h0
      obtain ⟨h2, h3⟩ := fields_cat m cs r xs _ e hc (by simpa using hl) (fun i g hg => by
        have := h (i + 1) g (by simpa using hg)
        simpa using this) (fun g hg => ih g (List.mem_cons_of_mem _ hg))
      refine ⟨by omega, ?_⟩
      simp only [List.map_cons, litsL, h1, h3]
      congr 1
      have e1 : e - o = P.cellsOf f.type + (e - (o + P.cellsOf f.type)) := by omega
      rw [e1, List.take_add, List.drop_drop]
    · cases hc
theorem elems_cat (m k : Nat) (ty : TypeId) (cs : List Value) (hk : P.cellsOf ty = k) : ∀ (n : Nat) (xs : List (DataW H × List MemPlace)) (o : Nat), xs.length = n →
    (∀ i, i < n → DataW.trod enc P w base sp held m ty ((cs.drop (o + i * k)).take k) = xs[i]?) →
    (∀ cs' x, DataW.trod enc P w base sp held m ty cs' = some x → lits x.1 = some cs') → litsL (xs.map (·.1)) = some ((cs.drop o).take (n * k))
  | 0, xs, o, hl, _, _ => by
    obtain rfl := List.eq_nil_of_length_eq_zero hl
    simp [litsL]
  | n + 1, [], o, hl, _, _ => by cases hl
  | n + 1, x :: xs, o, hl, h, ih => by
    have h0 := h 0 (Nat.succ_pos _)
    rw [Nat.zero_mul, Nat.add_zero] at h0
    have h1 := ih _ x h0
    have h3 := elems_cat m k ty cs hk n xs (o + k) (by simpa using hl) (fun i hi => by
      have := h (i + 1) (by omega)
      rw [Nat.succ_mul, Nat.add_comm (i * k) k, ← Nat.add_assoc] at this
      simpa using this) ih
    simp only [List.map_cons, litsL, h1, h3]
    congr 1
    rw [Nat.succ_mul, Nat.add_comm (n * k) k, List.take_add, List.drop_drop]
theorem cells_of : ∀ (k m : Nat) (t : TypeId) (cs : List Value) (x : DataW H × List MemPlace), flatB P k t = true → DataW.trod enc P w base sp held m t cs = some x → lits x.1 = some cs
  | 0, _, _, _, _, h, _ => by cases h
  | k + 1, m, t, cs, x, h, hd => by
    unfold flatB at h
    split at h
    · rename_i ht
      obtain ⟨n, rfl, rfl, _⟩ := DataW.trod_int ht hd
      rfl
    · rename_i ht
      obtain ⟨n, rfl, rfl⟩ := DataW.trod_bool ht hd
      rfl
    · rename_i ht
      obtain ⟨s, rfl, rfl, _⟩ := DataW.trod_string ht hd
      cases s with | mk a => simp [lits, ByteArray.toList_eq]
    · rename_i fs ht
      obtain ⟨xs, n, rfl, rfl, hl, hxl, hel⟩ := DataW.trod_struct ht hd
      simp only [Bool.and_eq_true] at h
      obtain ⟨hcon, hall⟩ := h
      cases hc : contig P fs.toList 0 with
      | none => rw [hc] at hcon; cases hcon
      | some e =>
        rw [hc] at hcon
        have he := Nat.eq_of_beq_eq_true hcon
        subst he
        have := (fields_cat n cs fs.toList xs 0 _ hc (by simpa using hxl) (fun i f hf => hel i f (by simpa using hf)) (fun f hf cs' x' hx => cells_of k n f.type cs' x' (List.all_eq_true.1 hall f hf) hx)).2
        simp only [lits, this, List.drop_zero, Nat.sub_zero]
        rw [← hl, List.take_length]
    · rename_i n e ht
      obtain ⟨xs, m', rfl, rfl, hl, hxl, hel⟩ := DataW.trod_array ht hd
      simp only [Bool.and_eq_true] at h
      have he := Nat.eq_of_beq_eq_true h.1
      have := elems_cat m' (P.cellsOf e) e cs rfl n xs 0 hxl (fun i hi => by rw [Nat.zero_add]; exact hel i hi) (fun cs' x' hx => cells_of k m' e cs' x' h.2 hx)
      simp only [lits, this, List.drop_zero, he]
      rw [← hl, List.take_length]
    · cases h
theorem rd_of_laid {g n size m : Nat} {t : TypeId} {cs : Array Value} {d : DataW H} {q : List MemPlace} {vs : List Value} (hf : flatB P 5 t = true) (hv : lits d = some vs) (hn : vs.length = n * size)
    (hd : DataW.trod enc P w base sp held m t cs.toList = some (d, q)) (hcell : ∀ j, w.cell? ⟨g, j, none⟩ = cs[j]?) : Rd size (some ⟨g, 0, none⟩) n vs w := by
  have h := cells_of 5 m t _ _ hf hd
  rw [hv] at h
  have h' := Option.some.inj h
  refine ⟨hn, fun _ => ⟨_, rfl, fun j u hu => ?_⟩⟩
  rw [add_none, Nat.zero_add, hcell j, ← Array.getElem?_toList, ← h']
  exact hu
end
end Go.Proofs.YthkjfepbmnabkaaDoor.Sx
