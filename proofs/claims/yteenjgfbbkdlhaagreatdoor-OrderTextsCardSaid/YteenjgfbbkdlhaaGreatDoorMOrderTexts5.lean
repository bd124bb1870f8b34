/- Texts joined: RgA, StrS, StoL, Sto1, Sto2, Sto3, Sto4, Sto5, Or8, Or9, B6L, RnP, Rn1, Rn2, Rn3, Rn4, B6V, B6G, B6D, B6W, B6E, B6U, Dec, Rl5, Rl7, Mk1, Mk2, Ora, Orb, Orc, CutN, Ord, Ore, Orf, Org, Orj, Oro, SxCv, Orn, Orp, Ork, EqS, SxAs, Orl, Orq, Orr, TabR, Tabs, Rm3, Rm4, Tb2, SxArg, Laid, Laid2. -/
import Derived.Test.YteenjgfbbkdlhaaGreatDoorMOrderTexts4
import Derived.Test.YteenjgfbbkdlhaaGreatDoorMOrderTexts2
import Derived.Test.YteenjgfbbkdlhaaGreatDoorMOrderTexts3
import Derived.Lib.LaidTab
import Derived.Below
import Derived.OpenShut
import Derived.ChangeArms
import Derived.LaidMore
set_option linter.unusedVariables false
set_option linter.unusedSimpArgs false
namespace Go.Proofs.YteenjgfbbkdlhaaGreatDoor.Sx
open Go
attribute [local irreducible] Calls
theorem box0i (sym : Bool) : BInv ⟨sym, false, []⟩ := ⟨fun _ q => (by cases q), List.nodup_nil, fun _ q => (by cases q), fun _ => rfl, Nat.zero_le _⟩
theorem keyT_len {e : Nat} (he : e < 100) : (keyT e).data.toList.length ≤ 10 := by
  have hds := decS_size he
  have hks : keyS.size = 4 := rfl
  show (keyS ++ decimS e).size ≤ 10
  rw [ByteArray.size_append]
  omega
theorem newK_c (w : World) (bx : Nat) (B : Bx.Box) (y : Lay) (M : Option Addr) (master : List UInt8) (cM room : Nat) (h1 : 1 ≤ master.length) (h2 : master.length ≤ 64) (h3 : 1 ≤ room) (h4 : room ≤ 8) (hts : y.ts.map (·.1) = B.L) (hi : BInv B) (hL : B.L.length < 4000) (hm : Mem w [bxF bx B y, bsF M master, oddF 5, firstF 2]) :
    Con Tryz.prog n_ring_New #[ptrB bx, .slice M master.length cM, .int .i64 (room : Int)] w [bxF bx B y] fun v Fs => ∃ (r : Rg) (y' : Lay), v = .tuple #[ptrR r.b, .int .i64 0] ∧ r.bx = bx ∧ r.master = master ∧ Kept r room 0 (macB B master (keyT 1).data.toList).1 ∧ GoodT B (macB B master (keyT 1).data.toList) ∧ y'.ts.map (·.1) = (macB B master (keyT 1).data.toList).2.L ∧
      Fs = [rgF r, bxF bx (macB B master (keyT 1).data.toList).2 y'] := by
  have hg := mac_good hi (by omega) (k := master) (t := (keyT 1).data.toList) (by omega) (Nat.le_trans (keyT_len (by decide)) (by decide))
  refine (newR_c w bx B y M master cM room h1 h2 h3 h4 hts hi hL hm).mono fun v Fs h => ?_
  obtain ⟨b, mA, mc, m, A, c, y', rfl, hy, rfl⟩ := h
  exact ⟨_, y', by rw [cut_b]; rfl, by rw [cut_bx]; rfl, by rw [cut_master]; rfl, kept_new h2 h3 h4 hg.2.1, hg, hy, rfl⟩
def strs (l : List ByteArray) : List Value := l.map Value.string
theorem strs_one (l : List ByteArray) : ∀ u ∈ strs l, u.oneCell' = true := by
  intro u hu
  obtain ⟨x, _, rfl⟩ := List.mem_map.1 hu
  rfl
abbrev srowF (A : Option Addr) (l : List ByteArray) (c : Nat) : Fact := rowF ty_string 1 (.slice A l.length c) l.length (strs l)
end Go.Proofs.YteenjgfbbkdlhaaGreatDoor.Sx

namespace Go.Proofs.YteenjgfbbkdlhaaGreatDoor.Sx
open Go
structure ASec where
  salt : List UInt8
  iter : Int
  stored : List UInt8
  server : List UInt8
  ha1 : List UInt8
structure ACrd where
  tenant : ByteArray
  user : ByteArray
  sec : ASec
  gen : Nat
  roles : List ByteArray
  revoked : Bool
abbrev ATs := List (ByteArray × List ACrd)
structure ASto where
  ts : ATs
  last : Nat
  reads : Int
def aten : ATs → ByteArray → Option (List ACrd)
  | [], _ => none
  | (k, us) :: r, t => if k = t then some us else aten r t
def ausr : List ACrd → ByteArray → Option ACrd
  | [], _ => none
  | c :: r, n => if c.user = n then some c else ausr r n
def atenU : ATs → ByteArray → (List ACrd → List ACrd) → ATs
  | [], _, _ => []
  | (k, us) :: r, t, f => if k = t then (k, f us) :: r else (k, us) :: atenU r t f
def ausrU : List ACrd → ByteArray → (ACrd → ACrd) → List ACrd
  | [], _, _ => []
  | c :: r, n, f => if c.user = n then f c :: r else c :: ausrU r n f
def atenD : ATs → ByteArray → ATs
  | [], _ => []
  | (k, us) :: r, t => if k = t then r else (k, us) :: atenD r t
def ausrD : List ACrd → ByteArray → List ACrd
  | [], _ => []
  | c :: r, n => if c.user = n then r else c :: ausrD r n
def aget (X : ASto) (t n : ByteArray) : Option ACrd := (aten X.ts t).bind fun us => ausr us n
def aone (X : ASto) (t u : ByteArray) : Option ACrd := if (nameA u).2 = 0 then aget X t (nameA u).1 else none
def saltedA (l : List UInt8) (iter : Int) : Bool := decide (1 ≤ l.length) && (decide (l.length ≤ 32) && (decide (1 ≤ iter) && decide (iter ≤ 64)))
def rightA (x : ASec) : Bool := saltedA x.salt x.iter && (decide (x.stored.length = 32) && (decide (x.server.length = 32) && decide (x.ha1.length = 32)))
def greatN : Nat := 9007199254740992
structure Sec where
  salt : Ro
  iter : Int
  stored : Ro
  server : Ro
  ha1 : Ro
def Sec.vs (x : Sec) : List Value := [x.salt.v, .int .i64 x.iter, x.stored.v, x.server.v, x.ha1.v]
def Sec.fs (x : Sec) : List Fact := [x.salt.f, x.stored.f, x.server.f, x.ha1.f]
def Sec.a (x : Sec) : ASec := ⟨x.salt.l, x.iter, x.stored.l, x.server.l, x.ha1.l⟩
def strsF (A : Option Addr) (l : List ByteArray) : Fact := rdoF 1 A l.length (l.map Value.string)
structure Crd where
  b : Nat
  tenant : ByteArray
  user : ByteArray
  sec : Sec
  gen : Nat
  rA : Option Addr
  rc : Nat
  roles : List ByteArray
  revoked : Bool
def Crd.vs (c : Crd) : List Value := .string c.tenant :: .string c.user :: (c.sec.vs ++ [.int .u64 c.gen, .slice c.rA c.roles.length c.rc, .bool c.revoked])
def Crd.parts (c : Crd) : List Fact := strsF c.rA c.roles :: c.sec.fs
def Crd.fs (c : Crd) : List Fact := bkF c.b ty_cred_Cred c.vs :: c.parts
def Crd.a (c : Crd) : ACrd := ⟨c.tenant, c.user, c.sec.a, c.gen, c.roles, c.revoked⟩
def crdF (c : Crd) : Fact := sepF c.fs
def ptr (b : Nat) : Value := .pointer (some ⟨b, 0, none⟩)
structure Ten where
  b : Nat
  name : ByteArray
  us : List Crd
def Ten.m (T : Ten) : ML := T.us.map fun c => (c.user, ptr c.b)
def tenF (T : Ten) : Fact := sepF [mapF T.b T.m, sepF (T.us.map crdF)]
def Ten.a (T : Ten) : ByteArray × List ACrd := (T.name, T.us.map Crd.a)
structure Sto where
  b : Nat
  m : Nat
  ts : List Ten
  last : Nat
  reads : Int
def Sto.vs (S : Sto) : List Value := [.map (some S.m), .int .u64 (S.last : Int), .int .u64 S.reads]
def Sto.ml (S : Sto) : ML := S.ts.map fun T => (T.name, .map (some T.b))
def stoF (S : Sto) : Fact := sepF [bkF S.b ty_cred_Store S.vs, mapF S.m S.ml, sepF (S.ts.map tenF)]
def Sto.a (S : Sto) : ASto := ⟨S.ts.map Ten.a, S.last, S.reads⟩
def tenO : List Ten → ByteArray → Option Ten
  | [], _ => none
  | T :: r, t => if T.name = t then some T else tenO r t
def crdO : List Crd → ByteArray → Option Crd
  | [], _ => none
  | c :: r, n => if c.user = n then some c else crdO r n
theorem look_ten (t : ByteArray) : ∀ ts : List Ten, (∃ A T B, ts = A ++ T :: B ∧ tenO ts t = some T ∧ T.name = t ∧ mlook (ts.map fun T => (T.name, Value.map (some T.b))) t = some (.map (some T.b)) ∧ aten (ts.map Ten.a) t = some (T.us.map Crd.a) ∧
      (∀ T' : Ten, ∀ f, T'.name = t → T'.us.map Crd.a = f (T.us.map Crd.a) → (A ++ T' :: B).map Ten.a = atenU (ts.map Ten.a) t f) ∧ (A ++ B).map Ten.a = atenD (ts.map Ten.a) t ∧ (A ++ B).map (fun T : Ten => (T.name, Value.map (some T.b))) = mdel (ts.map fun T => (T.name, Value.map (some T.b))) t) ∨
    (mlook (ts.map fun T => (T.name, Value.map (some T.b))) t = none ∧ aten (ts.map Ten.a) t = none ∧ tenO ts t = none)
  | [] => .inr ⟨rfl, rfl, rfl⟩
  | T :: r => by
    by_cases h : T.name = t
    · refine .inl ⟨[], T, r, rfl, by simp [tenO, h], h, ?_, ?_, ?_, ?_, ?_⟩
      · simp [mlook, h]
      · simp [aten, Ten.a, h]
      · intro T' f h1 h2
        simp [atenU, Ten.a, h, h1, h2]
      · simp [atenD, Ten.a, h]
      · simp [mdel, h]
    · rcases look_ten t r with ⟨A, T0, B, rfl, h0, h1, h2, h3, h4, h5, h6⟩ | ⟨h1, h2, h3⟩
      · refine .inl ⟨T :: A, T0, B, rfl, by simpa [tenO, h] using h0, h1, ?_, ?_, ?_, ?_, ?_⟩
        · simpa [mlook, h] using h2
        · simpa [aten, Ten.a, h] using h3
        · intro T' f q1 q2
          have := h4 T' f q1 q2
          simp only [List.cons_append, List.map_cons, Ten.a, atenU, if_neg h] at this ⊢
          rw [this]
        · simp only [List.cons_append, List.map_cons, Ten.a, atenD, if_neg h] at h5 ⊢
          rw [h5]
        · simp only [List.cons_append, List.map_cons, mdel, if_neg h] at h6 ⊢
          rw [h6]
      · refine .inr ⟨?_, ?_, ?_⟩
        · simpa [mlook, h] using h1
        · simpa [aten, Ten.a, h] using h2
        · simpa [tenO, h] using h3
theorem look_crd (n : ByteArray) : ∀ us : List Crd, (∃ A c B, us = A ++ c :: B ∧ crdO us n = some c ∧ c.user = n ∧ mlook (us.map fun c => (c.user, ptr c.b)) n = some (ptr c.b) ∧ ausr (us.map Crd.a) n = some c.a ∧
      (∀ c' : Crd, ∀ f, c'.user = n → c'.a = f c.a → (A ++ c' :: B).map Crd.a = ausrU (us.map Crd.a) n f) ∧ (A ++ B).map Crd.a = ausrD (us.map Crd.a) n ∧ (A ++ B).map (fun c : Crd => (c.user, ptr c.b)) = mdel (us.map fun c => (c.user, ptr c.b)) n ∧
      (∀ c' : Crd, c'.user = n → c'.b = c.b → (A ++ c' :: B).map (fun c : Crd => (c.user, ptr c.b)) = us.map fun c => (c.user, ptr c.b))) ∨
    (mlook (us.map fun c => (c.user, ptr c.b)) n = none ∧ ausr (us.map Crd.a) n = none ∧ crdO us n = none)
  | [] => .inr ⟨rfl, rfl, rfl⟩
  | c :: r => by
    by_cases h : c.user = n
    · refine .inl ⟨[], c, r, rfl, by simp [crdO, h], h, ?_, ?_, ?_, ?_, ?_, ?_⟩
      · simp [mlook, h]
      · simp [ausr, Crd.a, h]
      · intro c' f h1 h2
        have h0 : c.a.user = n := h
        simp [ausrU, h0, h2]
      · simp [ausrD, Crd.a, h]
      · simp [mdel, h]
      · intro c' h1 h2
        simp [h1, h2, h]
    · have h0 : ¬ c.a.user = n := h
      rcases look_crd n r with ⟨A, c0, B, rfl, h8, h1, h2, h3, h4, h5, h6, h7⟩ | ⟨h1, h2, h3⟩
      · refine .inl ⟨c :: A, c0, B, rfl, by simpa [crdO, h] using h8, h1, ?_, ?_, ?_, ?_, ?_, ?_⟩
        · simpa [mlook, h] using h2
        · simp only [List.map_cons, ausr, if_neg h0]; exact h3
        · intro c' f q1 q2
          have := h4 c' f q1 q2
          simp only [List.cons_append, List.map_cons, ausrU, if_neg h0] at this ⊢
          rw [this]
        · simp only [List.cons_append, List.map_cons, ausrD, if_neg h0] at h5 ⊢
          rw [h5]
        · simp only [List.cons_append, List.map_cons, mdel, if_neg h] at h6 ⊢
          rw [h6]
        · intro c' q1 q2
          have := h7 c' q1 q2
          simp only [List.cons_append, List.map_cons] at this ⊢
          rw [this]
      · refine .inr ⟨?_, ?_, ?_⟩
        · simpa [mlook, h] using h1
        · simp only [List.map_cons, ausr, if_neg h0]; exact h2
        · simpa [crdO, h] using h3
end Go.Proofs.YteenjgfbbkdlhaaGreatDoor.Sx

namespace Go.Proofs.YteenjgfbbkdlhaaGreatDoor.Sx
open Go
attribute [local irreducible] Calls
theorem fact_old' {f : Fact} {W w : World} (h : f.p W) (hD : ∀ k, f.D k → k < W.heap.size) (ho : (oldF W).p w) : f.p w := f.st W w (fun k hk => ho k (hD k hk)) h
theorem sto_bk {S : Sto} {w : World} (h : (stoF S).p w) : (bkF S.b ty_cred_Store S.vs).p w := h.1 _ (by simp)
theorem sto_map {S : Sto} {w : World} (h : (stoF S).p w) : mapP S.m S.ml w := h.1 (mapF S.m S.ml) (by simp)
theorem sto_ten {S : Sto} {w : World} (h : (stoF S).p w) {A B : List Ten} {T : Ten} (hT : S.ts = A ++ T :: B) : (tenF T).p w := by
  have h1 : (sepF (S.ts.map tenF)).p w := h.1 _ (by simp)
  exact h1.1 _ (by rw [hT]; simp)
theorem ten_map {T : Ten} {w : World} (h : (tenF T).p w) : mapP T.b T.m w := h.1 (mapF T.b T.m) (by simp)
theorem ten_crd {T : Ten} {w : World} (h : (tenF T).p w) {A B : List Crd} {c : Crd} (hc : T.us = A ++ c :: B) : (crdF c).p w := by
  have h1 : (sepF (T.us.map crdF)).p w := h.1 _ (by simp)
  exact h1.1 _ (by rw [hc]; simp)
theorem crd_bk {c : Crd} {w : World} (h : (crdF c).p w) : (bkF c.b ty_cred_Cred c.vs).p w := h.1 _ (by simp [Crd.fs])
theorem bkc {b ty : Nat} {cs : List Value} {w : World} (h : (bkF b ty cs).p w) {o : Nat} {v : Value} (ho : cs[o]? = some v) : w.cell? ⟨b, o, none⟩ = some v := by
  have h' : w.heap[b]? = some (.cells cs.toArray ty (0, 0)) := h
  rw [cell_of_row w b o _ _ _ h']
  simpa using ho
def mapV : Option Ten → Value
  | some T => .map (some T.b)
  | none => .map none
def crdV : Option Crd → Value
  | some c => ptr c.b
  | none => .pointer none
def Sto.usr (S : Sto) (t u : ByteArray) : Option Crd := if (nameA u).2 = 0 then (tenO S.ts t).bind fun T => crdO T.us (nameA u).1 else none
theorem zero_map (w : World) : (zeroValue ty_map_string_ptr_cred_Cred).run Tryz.prog w = .ok (.map none) w := by kernel_rfl
theorem zero_ptrC (w : World) : (zeroValue ty_ptr_cred_Cred).run Tryz.prog w = .ok (.pointer none) w := by kernel_rfl
theorem users_c (w : World) (S : Sto) (t : ByteArray) (h : (stoF S).p w) (hl : ∀ k, (stoF S).D k → k < w.heap.size) : Pu Tryz.prog n_cred_Store_users #[ptr S.b, .string t] w (mapV (tenO S.ts t)) := by
  have g := good_cred_Store_users w (Un [])
  refine con_of_sx (cx := cx_cred_Store_users w (Un [])) g b_cred_Store_users rfl rfl (β := Va.z) [.c (.v (ptr S.b)), .c (.v (.string t))] 0 [] [oldF w] rfl rfl (old_sat rfl) ?_
  refine ⟨.map (some S.m), fun β w' hs => bkc (sto_bk (fact_old' h hl (hs.get 0 rfl))) rfl, ?_⟩
  refine ⟨.map none, fun w => zero_map w, S.ml, mlook S.ml t, fun β w' hs => sto_map (fact_old' h hl (hs.get 0 rfl)), rfl, ?_⟩
  rcases look_ten t S.ts with ⟨A, T, B, e, h0, h1, h2, _⟩ | ⟨h1, h2, h3⟩
  · rw [show mlook S.ml t = _ from h2, h0]
    intro β w' hs
    exact hs.fin [] ⟨rfl, rfl⟩
  · rw [show mlook S.ml t = _ from h1, h3]
    intro β w' hs
    exact hs.fin [] ⟨rfl, rfl⟩
theorem get_c (w : World) (S : Sto) (t u : ByteArray) (h : (stoF S).p w) (hl : ∀ k, (stoF S).D k → k < w.heap.size) (hu : u.size ≤ 100000) (hn : NamT w) : Pu Tryz.prog n_cred_Store_get #[ptr S.b, .string t, .string u] w (crdV (S.usr t u)) := by
  have g := good_cred_Store_get w (Un [])
  refine con_of_sx (cx := cx_cred_Store_get w (Un [])) g b_cred_Store_get rfl rfl (β := Va.z) [.c (.v (ptr S.b)), .c (.v (.string t)), .c (.v (.string u))] 0 [] [oldF w] rfl rfl (old_sat rfl) ?_
  obtain ⟨p, e, hpe⟩ : ∃ p e, nameA u = (p, e) := ⟨_, _, rfl⟩
  refine call_pu (v := .tuple #[.string p, .int .i64 e]) (fun β w' hs => by
    have h := nameA_c w' u hu (hn.old (hs.get 0 rfl))
    rw [hpe] at h
    exact h) ?_
  have hus : S.usr t u = if e = 0 then (tenO S.ts t).bind fun T => crdO T.us p else none := by unfold Sto.usr; rw [hpe]
  refine BIf.not (BIf.dec (fun he => ?_) (fun he => ?_))
  · have he0 : e = 0 := he
    rw [if_pos he0] at hus
    rcases look_ten t S.ts with ⟨A, T, B, eT, h0, h1, h2, _⟩ | ⟨h1, h2, h3⟩
    · refine call_pu (v := .map (some T.b)) (fun β w' hs => by
        have h := users_c w' S t (fact_old' h hl (hs.get 0 rfl)) (fun k hk => Nat.lt_of_lt_of_le (hl k hk) hs.chg.size)
        rw [h0] at h
        exact h) ?_
      refine ⟨.pointer none, fun w => zero_ptrC w, T.m, mlook T.m p, fun β w' hs => ten_map (sto_ten (fact_old' h hl (hs.get 0 rfl)) eT), rfl, ?_⟩
      rw [h0] at hus
      rcases look_crd p T.us with ⟨U, c, V, eU, q0, q1, q2, _⟩ | ⟨q1, q2, q3⟩
      · rw [show mlook T.m p = _ from q2]
        intro β w' hs
        refine hs.fin [] ⟨?_, rfl⟩
        rw [hus]
        show _ = crdV (crdO T.us p)
        rw [q0]
        rfl
      · rw [show mlook T.m p = _ from q1]
        intro β w' hs
        refine hs.fin [] ⟨?_, rfl⟩
        rw [hus]
        show _ = crdV (crdO T.us p)
        rw [q3]
        rfl
    · refine call_pu (v := .map none) (fun β w' hs => by
        have h := users_c w' S t (fact_old' h hl (hs.get 0 rfl)) (fun k hk => Nat.lt_of_lt_of_le (hl k hk) hs.chg.size)
        rw [h3] at h
        exact h) ?_
      refine ⟨.pointer none, fun w => zero_ptrC w, ?_⟩
      intro β w' hs
      refine hs.fin [] ⟨?_, rfl⟩
      rw [hus, h3]
      rfl
  · have he0 : ¬ e = 0 := he
    rw [if_neg he0] at hus
    intro β w' hs
    refine hs.fin [] ⟨?_, rfl⟩
    rw [hus]
    rfl
structure SecV where
  A1 : Option Addr
  n1 : Nat
  c1 : Nat
  it : Int
  A2 : Option Addr
  n2 : Nat
  c2 : Nat
  A3 : Option Addr
  n3 : Nat
  c3 : Nat
  A4 : Option Addr
  n4 : Nat
  c4 : Nat
def SecV.vs (x : SecV) : List Value := [.slice x.A1 x.n1 x.c1, .int .i64 x.it, .slice x.A2 x.n2 x.c2, .slice x.A3 x.n3 x.c3, .slice x.A4 x.n4 x.c4]
def SecV.ss (x : SecV) : List SL := [.v (.slice x.A1 x.n1 x.c1), .v (.int .i64 x.it), .v (.slice x.A2 x.n2 x.c2), .v (.slice x.A3 x.n3 x.c3), .v (.slice x.A4 x.n4 x.c4)]
def rightN (x : SecV) : Bool := saltedN x.n1 x.it && (decide (x.n2 = 32) && (decide (x.n3 = 32) && decide (x.n4 = 32)))
theorem cright_c (w : World) (x : SecV) : Pu Tryz.prog n_cred_Secret_right #[.agg x.vs.toArray] w (.bool (rightN x)) := by
  have g := good_cred_Secret_right w (Un [])
  refine con_of_sx (cx := cx_cred_Secret_right w (Un [])) g b_cred_Secret_right rfl rfl (β := Va.z) [.agg x.ss] 0 [] [] rfl rfl (Sat.start rfl) ?_
  refine call_pu (fun β w' hs => csalted_c w' x.A1 x.n1 x.c1 x.it) ?_
  generalize hq : saltedN x.n1 x.it = b0
  cases b0 with
  | false =>
    intro β w' hs
    refine (hs.keepB (List.nil_sublist _)).fin [] ⟨?_, rfl⟩
    unfold rightN
    rw [hq]
    rfl
  | true =>
    conv => whnf
    generalize h1 : decide ((x.n2 : Int) = (32 : Int)) = b1
    have e1 : decide (x.n2 = 32) = b1 := by rw [← h1]; exact decide_eq_decide.2 (by omega)
    cases b1 with
    | false =>
      intro β w' hs
      refine (hs.keepB (List.nil_sublist _)).fin [] ⟨?_, rfl⟩
      unfold rightN
      rw [hq, e1]
      rfl
    | true =>
      conv => whnf
      generalize h2 : decide ((x.n3 : Int) = (32 : Int)) = b2
      have e2 : decide (x.n3 = 32) = b2 := by rw [← h2]; exact decide_eq_decide.2 (by omega)
      cases b2 with
      | false =>
        intro β w' hs
        refine (hs.keepB (List.nil_sublist _)).fin [] ⟨?_, rfl⟩
        unfold rightN
        rw [hq, e1, e2]
        rfl
      | true =>
        intro β w' hs
        refine (hs.keepB (List.nil_sublist _)).fin [] ⟨?_, rfl⟩
        unfold rightN
        rw [hq, e1, e2]
        show Value.bool (decide ((x.n4 : Int) = (32 : Int))) = _
        congr 1
        exact decide_eq_decide.2 (by omega)
structure SRd (x : SecV) (a : ASec) (w : World) : Prop where
  n1 : x.n1 = a.salt.length
  it : x.it = a.iter
  n2 : x.n2 = a.stored.length
  n3 : x.n3 = a.server.length
  n4 : x.n4 = a.ha1.length
  r1 : Bs w x.A1 a.salt
  r2 : Bs w x.A2 a.stored
  r3 : Bs w x.A3 a.server
  r4 : Bs w x.A4 a.ha1
theorem SRd.old {x : SecV} {a : ASec} {W w : World} (h : SRd x a W) (ho : (oldF W).p w) : SRd x a w := ⟨h.n1, h.it, h.n2, h.n3, h.n4, Rd.old h.r1 ho, Rd.old h.r2 ho, Rd.old h.r3 ho, Rd.old h.r4 ho⟩
theorem SRd.right {x : SecV} {a : ASec} {w : World} (h : SRd x a w) : rightN x = rightA a := by
  unfold rightN rightA saltedN saltedA
  rw [h.n1, h.it, h.n2, h.n3, h.n4]
structure ASz (a : ASec) : Prop where
  s : a.salt.length ≤ 1000000
  d : a.stored.length ≤ 1000000
  v : a.server.length ≤ 1000000
  h : a.ha1.length ≤ 1000000
def Sec.x (y : Sec) : SecV := ⟨y.salt.A, y.salt.l.length, y.salt.c, y.iter, y.stored.A, y.stored.l.length, y.stored.c, y.server.A, y.server.l.length, y.server.c, y.ha1.A, y.ha1.l.length, y.ha1.c⟩
theorem Sec.rd {y : Sec} {w : World} (h : ∀ f ∈ y.fs, f.p w) : SRd y.x y.a w :=
  ⟨rfl, rfl, rfl, rfl, rfl, h y.salt.f (by simp [Sec.fs]), h y.stored.f (by simp [Sec.fs]), h y.server.f (by simp [Sec.fs]), h y.ha1.f (by simp [Sec.fs])⟩
theorem scopyOf_c (w : World) (x : SecV) (a : ASec) (hr : SRd x a w) (hz : ASz a) :
    Con Tryz.prog n_cred_Secret_copyOf #[.agg x.vs.toArray] w [] fun v Fs => ∃ y : Sec, y.a = a ∧ v = .agg y.vs.toArray ∧ Fs = [y.ha1.f, y.server.f, y.stored.f, y.salt.f] := by
  have g := good_cred_Secret_copyOf w (Un [])
  refine con_of_sx (cx := cx_cred_Secret_copyOf w (Un [])) g b_cred_Secret_copyOf rfl rfl (β := Va.z) [.agg x.ss] 0 [] [oldF w] rfl rfl (old_sat rfl) ?_
  have hS : ∀ {n : Nat} {F : List Fact}, Sub (cx_cred_Secret_copyOf w (Un [])) n [⟨1, ty_cred_Secret, ti110.zero.map SL.v⟩, ⟨0, ty_cred_Secret, x.ss⟩] F [⟨0, ty_cred_Secret, x.ss⟩] [] := fun {n F} => Sub.of (List.sublist_cons_self _ _) (List.nil_sublist _)
  refine draw_rule g p_cred_Secret_copyOf_1 (by kernel_rfl) [⟨0, ty_cred_Secret, x.ss⟩] [] hS ?_
  refine call_con [] (fun β w' hs => cloneRo_c w' x.A1 a.salt x.n1 x.c1 hr.n1 (Rd.old hr.r1 (hs.get 0 rfl)) hz.s) ?_
  rintro v Fs ⟨r1, e1, rfl, rfl⟩
  refine ⟨hS, ?_⟩
  refine call_con [] (fun β w' hs => cloneRo_c w' x.A2 a.stored x.n2 x.c2 hr.n2 (Rd.old hr.r2 (hs.get 1 rfl)) hz.d) ?_
  rintro v Fs ⟨r2, e2, rfl, rfl⟩
  refine ⟨hS, ?_⟩
  refine call_con [] (fun β w' hs => cloneRo_c w' x.A3 a.server x.n3 x.c3 hr.n3 (Rd.old hr.r3 (hs.get 2 rfl)) hz.v) ?_
  rintro v Fs ⟨r3, e3, rfl, rfl⟩
  refine ⟨hS, ?_⟩
  refine call_con [] (fun β w' hs => cloneRo_c w' x.A4 a.ha1 x.n4 x.c4 hr.n4 (Rd.old hr.r4 (hs.get 3 rfl)) hz.h) ?_
  rintro v Fs ⟨r4, e4, rfl, rfl⟩
  refine ⟨hS, ?_⟩
  intro β w' hs
  refine (hs.keepB (List.nil_sublist _)).fin [0, 1, 2, 3] ⟨⟨r1, x.it, r2, r3, r4⟩, ?_, rfl, rfl⟩ rfl rfl rfl ⟨rfl, rfl, rfl, rfl, trivial⟩
  show ASec.mk r1.l x.it r2.l r3.l r4.l = a
  rw [e1, e2, e3, e4, hr.it]
theorem cloneS_c (w : World) (A : Option Addr) (l : List ByteArray) (c : Nat) (hr : Rd 1 A l.length (strs l) w) (hn : l.length ≤ 1000000) :
    Con Tryz.prog n_slices_Clone_string_string #[.slice A l.length c] w [] fun v Fs => ∃ A' c', v = .slice A' l.length c' ∧ l.length ≤ c' ∧ c' ≤ maxLen ∧ Fs = [srowF A' l c'] := by
  refine con_of_sx (cx := cx_slices_Clone_string_string w (Un [])) (good_slices_Clone_string_string w (Un [])) b_slices_Clone_string_string rfl rfl (β := Va.z) [.c (.v (.slice A l.length c))] 0 [] [rdF 1 A l.length (strs l)] rfl rfl ((Sat.start rfl).rd (fun _ h => by cases h) hr) ?_
  refine BIf.mk (fun h => ?_) (fun h => ?_)
  · intro β w' hs
    have hA : A = none := by simpa using h
    subst hA
    have hl : l = [] := by
      cases l with
      | nil => rfl
      | cons x r => obtain ⟨ad, q, _⟩ := hr.2 (by simp); cases q
    subst hl
    exact (hs.nilRow ty_string 1).fin [0] ⟨none, 0, rfl, Nat.le_refl _, Nat.zero_le _, rfl⟩
  intro b
  refine ⟨0, 0, l.length, [], strs l, _, rfl, fun β w hs => hs.get 1 rfl, strs_one l, Nat.zero_add _, rfl, by rw [maxLen_eq]; omega, by show l.length * 16 ≤ _; omega, ?_⟩
  intro A' c' h1 h2 h3 β w' hs
  exact hs.fin [0] ⟨A', c', rfl, h1, h2, rfl⟩
theorem touched_c (w : World) (b cb last : Nat) (m r : Value) (cs : List Value) (hlen : cs.length = 10) (hlast : last < greatN) (hm : Mem w [bkF b ty_cred_Store [m, .int .u64 (last : Int), r], bkF cb ty_cred_Cred cs]) :
    Con Tryz.prog n_cred_Store_touched #[ptr b, ptr cb] w [bkF b ty_cred_Store [m, .int .u64 (last : Int), r], bkF cb ty_cred_Cred cs] fun v Fs => v = .int .i64 0 ∧ Fs = [bkF b ty_cred_Store [m, .int .u64 ((last + 1 : Nat) : Int), r], bkF cb ty_cred_Cred (putAll cs 7 [.int .u64 ((last + 1 : Nat) : Int)])] := by
  have g := good_cred_Store_touched w (Un [bkF b ty_cred_Store [m, .int .u64 (last : Int), r], bkF cb ty_cred_Cred cs])
  refine con_of_sx (cx := cx_cred_Store_touched w (Un [bkF b ty_cred_Store [m, .int .u64 (last : Int), r], bkF cb ty_cred_Cred cs])) g b_cred_Store_touched rfl rfl (β := Va.z) [.c (.v (ptr b)), .c (.v (ptr cb))] 0 [] [bkF b ty_cred_Store [m, .int .u64 (last : Int), r], bkF cb ty_cred_Cred cs] rfl rfl (hm.sat0 rfl (fun f hf ho k hk => ⟨f, hf, hk⟩)) ?_
  refine ⟨.int .u64 (last : Int), fun β w' hs => bkc (hs.get 0 rfl) rfl, ((last + 1 : Nat) : Int), ?_, ?_⟩
  · rw [wrap_u64']; unfold greatN at hlast; omega
  refine ⟨[bkF b ty_cred_Store [m, .int .u64 ((last + 1 : Nat) : Int), r], bkF cb ty_cred_Cred cs], fun β w' hs => ?_, ?_⟩
  · exact hs.bkSet 0 (o := 1) (us := [.int .u64 ((last + 1 : Nat) : Int)]) rfl (by simp) (fun u hu => by obtain rfl := List.mem_singleton.1 hu; rfl)
  refine ⟨.int .u64 ((last + 1 : Nat) : Int), fun β w' hs => bkc (hs.get 0 rfl) rfl, ?_⟩
  refine ⟨[bkF b ty_cred_Store [m, .int .u64 ((last + 1 : Nat) : Int), r], bkF cb ty_cred_Cred (putAll cs 7 [.int .u64 ((last + 1 : Nat) : Int)])], fun β w' hs => ?_, ?_⟩
  · exact hs.bkSet 1 (o := 7) (us := [.int .u64 ((last + 1 : Nat) : Int)]) rfl (by rw [hlen]; simp) (fun u hu => by obtain rfl := List.mem_singleton.1 hu; rfl)
  intro β w' hs
  exact hs.fin [0, 1] ⟨rfl, rfl⟩
end Go.Proofs.YteenjgfbbkdlhaaGreatDoor.Sx

namespace Go.Proofs.YteenjgfbbkdlhaaGreatDoor.Sx
open Go
attribute [local irreducible] Calls
noncomputable def cx0 (w : World) (S : Nat → Prop) : Cx := ⟨Tryz.prog, w, S, 0, [], [], [], none, []⟩
theorem Sat.recut {cx : Cx} {β : Va} {n : Nat} {H : List Bk} {F : List Fact} {w : World} (h : Sat cx β n H F w) (js : List Nat) {F0 Fs : List Fact} (hre : Sat (cx0 w (Un F0)) Va.z 0 [] F0 w → Sat (cx0 w (Un F0)) Va.z 0 [] Fs w)
    (htk : takeIx F js = F0 := by rfl) (hn : nodupB js = true := by rfl) (ho : Owns F0 := by first | exact ⟨rfl, trivial⟩ | exact ⟨rfl, rfl, trivial⟩ | exact ⟨rfl, rfl, rfl, trivial⟩ | exact ⟨rfl, rfl, rfl, rfl, trivial⟩) (ho' : Owns Fs := by first | exact ⟨rfl, trivial⟩ | exact ⟨rfl, rfl, trivial⟩ | exact ⟨rfl, rfl, rfl, trivial⟩ | exact ⟨rfl, rfl, rfl, rfl, trivial⟩) :
    Sat cx β n H (Fs ++ dropIx js 0 F) w := by
  subst htk
  have hm := h.mem.take hn
  have h1 := hre (hm.sat0 rfl (fun f hf ho k hk => ⟨f, hf, hk⟩))
  refine h.swap js ho (Chg.refl _ _) h1.mem (fun f hf k hk => .inl ?_)
  rcases h1.fown f hf (ho'.mem f hf) k hk with q | q
  · exact q
  · exact absurd (h1.flt f hf k hk) (Nat.not_lt.2 q)
section
variable {c0 : Cx} {w : World}
end
theorem mput_end : ∀ {l : ML} {s : ByteArray} {v : Value}, mlook l s = none → mput l s v = l ++ [(s, v)]
  | [], _, _, _ => rfl
  | (k, u) :: r, s, v, h => by
    simp only [mlook] at h
    split at h
    · cases h
    · rename_i hne
      simp only [mput, if_neg hne, List.cons_append]
      rw [mput_end h]
def secF (x : SecV) (a : ASec) : Fact where
  own := false
  D := Un [bsF x.A1 a.salt, bsF x.A2 a.stored, bsF x.A3 a.server, bsF x.A4 a.ha1]
  p := SRd x a
  st := fun w w' hs h => ⟨h.n1, h.it, h.n2, h.n3, h.n4, (bsF x.A1 a.salt).st w w' (fun k hk => hs k ⟨_, by simp, hk⟩) h.r1, (bsF x.A2 a.stored).st w w' (fun k hk => hs k ⟨_, by simp, hk⟩) h.r2, (bsF x.A3 a.server).st w w' (fun k hk => hs k ⟨_, by simp, hk⟩) h.r3, (bsF x.A4 a.ha1).st w w' (fun k hk => hs k ⟨_, by simp, hk⟩) h.r4⟩
def sto0 (b m : Nat) : Sto := ⟨b, m, [], 0, 0⟩
theorem cnew_c (w : World) : Con Tryz.prog n_cred_New #[] w [] fun v Fs => ∃ b m, v = ptr b ∧ Fs = [stoF (sto0 b m)] := by
  have g := good_cred_New w (Un [])
  refine con_of_sx (cx := cx_cred_New w (Un [])) g b_cred_New rfl rfl (β := Va.z) [] 0 [] [] rfl rfl (Sat.start rfl) ?_
  intro m
  intro β w' hs
  have h1 := (hs.ofBk).noMem (sepF []) ⟨fun f hf => (by cases hf), List.Pairwise.nil⟩ (fun k hk => by obtain ⟨f, hf, _⟩ := hk; cases hf)
  have h2 := h1.sep [1, 2, 0]
  exact h2.fin [0] ⟨β 0, m, rfl, rfl⟩
end Go.Proofs.YteenjgfbbkdlhaaGreatDoor.Sx

namespace Go.Proofs.YteenjgfbbkdlhaaGreatDoor.Sx
open Go
attribute [local irreducible] Calls
def addT (X : ASto) (t : ByteArray) : Int × ASto :=
  if plainF t.data.toList = false then (5, X) else if (aten X.ts t).isSome then (7, X) else if 8 ≤ X.ts.length then (8, X) else (0, { X with ts := X.ts ++ [(t, [])] })
def stoOut (S : Sto) (r : Int × ASto) (v : Value) (Fs : List Fact) : Prop := ∃ S' : Sto, v = .int .i64 r.1 ∧ S'.a = r.2 ∧ S'.b = S.b ∧ Fs = [stoF S']
theorem stoOut_same {S : Sto} {r : Int × ASto} {e : Int} (h : r = (e, S.a)) : stoOut S r (.int .i64 e) [stoF S] := ⟨S, by rw [h], by rw [h], rfl, rfl⟩
theorem ml_len (S : Sto) : S.ml.length = S.a.ts.length := by simp [Sto.ml, Sto.a]
theorem mlook_end : ∀ {l : ML} {s : ByteArray} {v : Value}, mlook l s = none → mlook (l ++ [(s, v)]) s = some v
  | [], s, v, _ => by simp [mlook]
  | (k, u) :: r, s, v, h => by
    simp only [mlook] at h
    split at h
    · cases h
    · rename_i hne
      simp only [List.cons_append, mlook, if_neg hne]
      exact mlook_end h
theorem sto_addT {c0 : Cx} {w : World} {S : Sto} {t : ByteArray} {mb : Nat} (h0 : Sat c0 Va.z 0 [] [bkF S.b ty_cred_Store S.vs, mapF S.m (S.ml ++ [(t, .map (some mb))]), sepF (S.ts.map tenF), mapF mb []] w) :
    Sat c0 Va.z 0 [] [stoF { S with ts := S.ts ++ [⟨mb, t, []⟩] }] w := by
  have h1 := h0.noMem (sepF []) ⟨fun f hf => (by cases hf), List.Pairwise.nil⟩ (fun k hk => by obtain ⟨f, hf, _⟩ := hk; cases hf)
  have h2 := h1.sep [4, 0]
  have h3 := h2.blur 0 3 (A := S.ts.map tenF) (B := []) (x := tenF ⟨mb, t, []⟩) rfl (by show some (sepF (S.ts.map tenF)) = _; rw [List.append_nil]) rfl (by decide)
  have h4 := h3.sep [1, 2, 0]
  have e : stoF { S with ts := S.ts ++ [⟨mb, t, []⟩] } = sepF [bkF S.b ty_cred_Store S.vs, mapF S.m (S.ml ++ [(t, .map (some mb))]), sepF (S.ts.map tenF ++ [tenF ⟨mb, t, []⟩])] := by
    unfold stoF Sto.ml
    simp [Sto.vs]
  rw [e]
  exact h4
theorem addTenant_c (w : World) (S : Sto) (t : ByteArray) (ht : t.size ≤ 100000) (hm : Mem w [stoF S]) : Con Tryz.prog n_cred_Store_AddTenant #[ptr S.b, .string t] w [stoF S] (stoOut S (addT S.a t)) := by
  have g := good_cred_Store_AddTenant w (Un [stoF S])
  refine con_of_sx (cx := cx_cred_Store_AddTenant w (Un [stoF S])) g b_cred_Store_AddTenant rfl rfl (β := Va.z) [.c (.v (ptr S.b)), .c (.v (.string t))] 0 [] [stoF S] rfl rfl (hm.sat0 rfl (fun f hf ho k hk => ⟨f, hf, hk⟩)) ?_
  refine call_pu (fun β w' hs => plain_c w' t ht) ?_
  generalize hp : plainF t.data.toList = bp
  cases bp with
  | false =>
    intro β w' hs
    exact hs.fin [0] (stoOut_same (by unfold addT; rw [if_pos hp]))
  | true =>
    have hp' : ¬ plainF t.data.toList = false := by rw [hp]; decide
    rcases look_ten t S.ts with ⟨A, T, B, eT, h0, h1, h2, h3, _⟩ | ⟨h1, h2, h3⟩
    · refine call_pu (v := .map (some T.b)) (fun β w' hs => by
        have h := users_c w' S t (hs.get 0 rfl) (hs.getLt 0 rfl)
        rw [h0] at h
        exact h) ?_
      intro β w' hs
      refine hs.fin [0] (stoOut_same ?_)
      unfold addT
      rw [if_neg hp', if_pos (by show (aten (S.ts.map Ten.a) t).isSome = true; rw [h3]; rfl)]
    · refine call_pu (v := .map none) (fun β w' hs => by
        have h := users_c w' S t (hs.get 0 rfl) (hs.getLt 0 rfl)
        rw [h3] at h
        exact h) ?_
      have h2' : ¬ (aten S.a.ts t).isSome = true := by show ¬ (aten (S.ts.map Ten.a) t).isSome = true; rw [h2]; simp
      have hl := ml_len S
      refine ⟨.map (some S.m), fun β w' hs => bkc (sto_bk (hs.get 0 rfl)) rfl, ?_⟩
      refine ⟨S.ml, fun β w' hs => sto_map (hs.get 0 rfl), ?_⟩
      refine BIf.dec (fun hf => ?_) (fun hf => ?_)
      · have hf0 : (8 : Int) ≤ (S.ml.length : Int) := hf
        intro β w' hs
        refine hs.fin [0] (stoOut_same ?_)
        unfold addT
        rw [if_neg hp', if_neg h2', if_pos (by omega)]
      · have hf0 : ¬ (8 : Int) ≤ (S.ml.length : Int) := hf
        refine ⟨.map (some S.m), fun β w' hs => bkc (sto_bk (hs.get 0 rfl)) rfl, ?_⟩
        intro mb
        refine ⟨[], fun _ => [stoF { S with ts := S.ts ++ [⟨mb, t, []⟩] }], fun β w' hs => ?_, fun _ => ?_⟩
        · have q1 := hs.unsep 1 rfl
          obtain ⟨w2, q2, q3⟩ := q1.mapPut g 1 rfl (t := ty_map_string_map_string_ptr_cred_Cred) t (.map (some mb))
          rw [mput_end (show mlook S.ml t = none from h1)] at q3
          exact ⟨w2, 0, q2, q3.recut [0, 1, 2, 3] sto_addT⟩
        · intro β w' hs
          refine hs.fin [0] ⟨{ S with ts := S.ts ++ [⟨mb, t, []⟩] }, ?_, ?_, rfl, rfl⟩
          · unfold addT
            rw [if_neg hp', if_neg h2', if_neg (by omega)]
            rfl
          · unfold addT
            rw [if_neg hp', if_neg h2', if_neg (by omega)]
            show ASto.mk ((S.ts ++ [(⟨mb, t, []⟩ : Ten)]).map Ten.a) _ _ = _
            rw [List.map_append]
            rfl
def addU (X : ASto) (t u : ByteArray) (a : ASec) : Int × ASto :=
  match aten X.ts t with
  | none => (6, X)
  | some us => if (nameA u).2 = 0 then if rightA a = false then (4, X) else if (ausr us (nameA u).1).isSome then (7, X) else if 32 ≤ us.length then (8, X) else if greatN ≤ X.last then (8, X) else
      (0, { X with ts := atenU X.ts t (fun us => us ++ [⟨t, (nameA u).1, a, X.last + 1, [], false⟩]), last := X.last + 1 })
    else ((nameA u).2, X)
def newCrd (b : Nat) (t n : ByteArray) (y : Sec) (gen : Nat) : Crd := ⟨b, t, n, y, gen, none, 0, [], false⟩
theorem sto_addU {c0 : Cx} {w : World} {S : Sto} {A B : List Ten} {T : Ten} {n : ByteArray} {c : Crd} {last : Nat} (hT : S.ts = A ++ T :: B) (hn : c.user = n)
    (h0 : Sat c0 Va.z 0 [] [bkF S.b ty_cred_Store [.map (some S.m), .int .u64 (last : Int), .int .u64 S.reads], bkF c.b ty_cred_Cred c.vs, sepF c.parts, mapF T.b (T.m ++ [(n, ptr c.b)]), sepF (T.us.map crdF), mapF S.m S.ml, sepF ((A ++ B).map tenF)] w) :
    Sat c0 Va.z 0 [] [stoF { S with ts := A ++ { T with us := T.us ++ [c] } :: B, last := last }] w := by
  have h1 := h0.unsep 2 rfl
  have h2 := h1.sep [6, 0, 1, 2, 3, 4] rfl ⟨rfl, rfl, rfl, rfl, rfl, rfl, trivial⟩
  have h3 := h2.blur 0 3 (A := T.us.map crdF) (B := []) (x := crdF c) rfl (by show some (sepF (T.us.map crdF)) = _; rw [List.append_nil]) rfl (by decide)
  have h4 := h3.sep [2, 0]
  have e1 : tenF { T with us := T.us ++ [c] } = sepF [mapF T.b (T.m ++ [(n, ptr c.b)]), sepF (T.us.map crdF ++ [crdF c])] := by
    unfold tenF Ten.m
    simp [hn]
  have h4' : Sat c0 Va.z 0 [] [tenF { T with us := T.us ++ [c] }, bkF S.b ty_cred_Store [.map (some S.m), .int .u64 (last : Int), .int .u64 S.reads], mapF S.m S.ml, sepF (A.map tenF ++ B.map tenF)] w := by
    rw [e1, ← List.map_append]
    exact h4
  have h5 := h4'.blur 0 3 (A := A.map tenF) (B := B.map tenF) (x := tenF { T with us := T.us ++ [c] }) rfl rfl rfl (by decide)
  have h6 := h5.sep [1, 2, 0]
  have e : stoF { S with ts := A ++ { T with us := T.us ++ [c] } :: B, last := last } = sepF [bkF S.b ty_cred_Store [.map (some S.m), .int .u64 (last : Int), .int .u64 S.reads], mapF S.m S.ml, sepF (A.map tenF ++ tenF { T with us := T.us ++ [c] } :: B.map tenF)] := by
    unfold stoF Sto.ml
    rw [hT]
    simp [Sto.vs]
  rw [e]
  exact h6
theorem sto_openT {c0 : Cx} {w : World} {S : Sto} {A B : List Ten} {T : Ten} (hT : S.ts = A ++ T :: B) (h0 : Sat c0 Va.z 0 [] [stoF S] w) :
    Sat c0 Va.z 0 [] [bkF S.b ty_cred_Store S.vs, mapF T.b T.m, sepF (T.us.map crdF), mapF S.m S.ml, sepF ((A ++ B).map tenF)] w := by
  have h1 := h0.unsep 0 rfl
  have h2 := h1.focus 2 (A := A.map tenF) (B := B.map tenF) (x := tenF T) (by show some (sepF (S.ts.map tenF)) = _; rw [hT, List.map_append, List.map_cons]) rfl
  have h3 := h2.unsep 0 rfl
  have h4 := h3.perm [3, 0, 1, 4, 2]
  rw [List.map_append]
  exact h4
set_option maxHeartbeats 1000000 in
theorem add_c (w : World) (S : Sto) (t u : ByteArray) (x : SecV) (a : ASec) (hu : u.size ≤ 100000) (hz : ASz a) (hm : Mem w [stoF S, secF x a, namF]) :
    Con Tryz.prog n_cred_Store_Add #[ptr S.b, .string t, .string u, .agg x.vs.toArray] w [stoF S] (stoOut S (addU S.a t u a)) := by
  have g := good_cred_Store_Add w (Un [stoF S])
  refine con_of_sx (cx := cx_cred_Store_Add w (Un [stoF S])) g b_cred_Store_Add rfl rfl (β := Va.z) [.c (.v (ptr S.b)), .c (.v (.string t)), .c (.v (.string u)), .agg x.ss] 0 [] [stoF S, secF x a, namF] rfl rfl (hm.sat0 rfl (ownIn (Gs := [stoF S]) (fun f hf => by
    simp only [List.mem_cons, List.not_mem_nil, or_false] at hf
    rcases hf with rfl | rfl <;> rfl))) ?_
  rcases look_ten t S.ts with ⟨A, T, B, eT, h0, h1, h2, h3, h4, _⟩ | ⟨h1, h2, h3⟩
  rotate_left
  · refine call_pu (v := .map none) (fun β w' hs => by
      have h := users_c w' S t (hs.get 0 rfl) (hs.getLt 0 rfl)
      rw [h3] at h
      exact h) ?_
    intro β w' hs
    refine (hs.keepB (List.nil_sublist _)).fin [0] (stoOut_same ?_)
    unfold addU
    rw [show aten S.a.ts t = none from h2]
  refine call_pu (v := .map (some T.b)) (fun β w' hs => by
    have h := users_c w' S t (hs.get 0 rfl) (hs.getLt 0 rfl)
    rw [h0] at h
    exact h) ?_
  obtain ⟨p, e, hpe⟩ : ∃ p e, nameA u = (p, e) := ⟨_, _, rfl⟩
  have hadd : addU S.a t u a = if e = 0 then if rightA a = false then (4, S.a) else if (ausr (T.us.map Crd.a) p).isSome then (7, S.a) else if 32 ≤ (T.us.map Crd.a).length then (8, S.a) else if greatN ≤ S.last then (8, S.a) else
      (0, { S.a with ts := atenU S.a.ts t (fun us => us ++ [⟨t, p, a, S.last + 1, [], false⟩]), last := S.last + 1 }) else (e, S.a) := by
    unfold addU
    rw [show aten S.a.ts t = _ from h3, hpe]
    rfl
  refine call_pu (v := .tuple #[.string p, .int .i64 e]) (fun β w' hs => by
    have h := nameA_c w' u hu (namF_T (hs.get 2 rfl))
    rw [hpe] at h
    exact h) ?_
  refine BIf.not (BIf.dec (fun he => ?_) (fun he => ?_))
  rotate_left
  · have he0 : ¬ e = 0 := he
    rw [if_neg he0] at hadd
    intro β w' hs
    exact (hs.keepB (List.nil_sublist _)).fin [0] (stoOut_same hadd)
  have he0 : e = 0 := he
  rw [if_pos he0] at hadd
  refine call_pu (fun β w' hs => cright_c w' x) ?_
  have hri : rightN x = rightA a := (hm.fact (secF x a) (by simp)).right
  rw [hri]
  generalize hr : rightA a = br at hadd
  cases br with
  | false =>
    rw [if_pos rfl] at hadd
    intro β w' hs
    exact (hs.keepB (List.nil_sublist _)).fin [0] (stoOut_same hadd)
  | true =>
  rw [if_neg (by decide)] at hadd
  refine ⟨.pointer none, fun w => zero_ptrC w, T.m, mlook T.m p, fun β w' hs => ten_map (sto_ten (hs.get 0 rfl) eT), rfl, ?_⟩
  rcases look_crd p T.us with ⟨U, c, V, eU, q0, q1, q2, q3, _⟩ | ⟨q1, q2, q3⟩
  · rw [show mlook T.m p = _ from q2]
    rw [q3, if_pos (show (some c.a).isSome = true from rfl)] at hadd
    intro β w' hs
    exact (hs.keepB (List.nil_sublist _)).fin [0] (stoOut_same hadd)
  rw [show mlook T.m p = _ from q1]
  rw [q2, if_neg (show ¬ (none : Option ACrd).isSome = true from fun h => by cases h)] at hadd
  have hml : T.m.length = (T.us.map Crd.a).length := by simp [Ten.m]
  refine ⟨T.m, fun β w' hs => ten_map (sto_ten (hs.get 0 rfl) eT), ?_⟩
  rw [← hml] at hadd
  refine BIf.dec (fun hf => ?_) (fun hf => ?_)
  · have hf0 : (32 : Int) ≤ (T.m.length : Int) := hf
    rw [if_pos (by omega)] at hadd
    intro β w' hs
    exact (hs.keepB (List.nil_sublist _)).fin [0] (stoOut_same hadd)
  have hf0 : ¬ (32 : Int) ≤ (T.m.length : Int) := hf
  rw [if_neg (by omega)] at hadd
  refine ⟨.int .u64 (S.last : Int), fun β w' hs => bkc (sto_bk (hs.get 0 rfl)) rfl, ?_⟩
  refine BIf.dec (fun hg => ?_) (fun hg => ?_)
  · have hg0 : (9007199254740992 : Int) ≤ (S.last : Int) := hg
    rw [if_pos (by unfold greatN; omega)] at hadd
    intro β w' hs
    exact (hs.keepB (List.nil_sublist _)).fin [0] (stoOut_same hadd)
  have hg0 : ¬ (9007199254740992 : Int) ≤ (S.last : Int) := hg
  have hgl : S.last < greatN := by unfold greatN; omega
  rw [if_neg (by unfold greatN; omega)] at hadd
  refine call_con [] (fun β w' hs => scopyOf_c w' x a (hs.get 1 rfl) hz) ?_
  rintro v Fs ⟨y, hy, rfl, rfl⟩
  refine ⟨[⟨0, ty_cred_Secret, x.ss⟩], fun yb => [bkF S.b ty_cred_Store S.vs, bkF yb ty_cred_Cred (newCrd yb t p y 0).vs, sepF (newCrd yb t p y 0).parts, mapF T.b (T.m ++ [(p, ptr yb)]), sepF (T.us.map crdF), mapF S.m S.ml, sepF ((A ++ B).map tenF), secF x a, namF], fun β w' hs => ?_, fun yb => ?_⟩
  · have k1 := hs.ofBk
    have k2 := k1.noMem (strsF none []) ⟨rfl, fun q => by cases q⟩ (fun k hk => by obtain ⟨q, _⟩ := hk; cases q)
    have k3 := k2.sep [0, 5, 4, 3, 2] rfl ⟨rfl, rfl, rfl, rfl, rfl, trivial⟩
    have k4 := k3.recut [2] (sto_openT eT) rfl rfl ⟨rfl, trivial⟩ ⟨rfl, rfl, rfl, rfl, rfl, trivial⟩
    obtain ⟨w2, k5, k6⟩ := k4.mapPut g 1 rfl (t := ty_map_string_ptr_cred_Cred) p (ptr (β 1))
    rw [mput_end (show mlook T.m p = none from q1)] at k6
    exact ⟨w2, β 1, k5, k6.perm [0, 6, 5, 1, 2, 3, 4, 7, 8]⟩
  refine ⟨.pointer none, fun w => zero_ptrC w, T.m ++ [(p, ptr yb)], some (ptr yb), fun β w' hs => hs.get 3 rfl, mlook_end (show mlook T.m p = none from q1), ?_⟩
  refine call_con [0, 1] (fun β w' hs => touched_c w' S.b yb S.last (.map (some S.m)) (.int .u64 S.reads) (newCrd yb t p y 0).vs rfl hgl (hs.mem.take (js := [0, 1]) rfl)) ?_
  rintro v Fs ⟨rfl, rfl⟩
  intro β w' hs
  have k := (hs.keepB (List.nil_sublist _)).recut [0, 1, 2, 3, 4, 5, 6] (sto_addU (S := S) (c := newCrd yb t p y (S.last + 1)) (last := S.last + 1) eT rfl) rfl rfl ⟨rfl, rfl, rfl, rfl, rfl, rfl, rfl, trivial⟩
  refine k.fin [0] ⟨{ S with ts := A ++ { T with us := T.us ++ [newCrd yb t p y (S.last + 1)] } :: B, last := S.last + 1 }, by rw [hadd]; rfl, ?_, rfl, rfl⟩
  rw [hadd]
  have k8 := h4 { T with us := T.us ++ [newCrd yb t p y (S.last + 1)] } (fun us => us ++ [⟨t, p, a, S.last + 1, [], false⟩]) h1 (by
    rw [List.map_append]
    show _ ++ [Crd.a (newCrd yb t p y (S.last + 1))] = _
    congr 2
    show ACrd.mk t p y.a (S.last + 1) [] false = _
    rw [hy])
  show ASto.mk _ _ _ = ASto.mk _ _ _
  rw [k8]
  rfl
structure At (S : Sto) (t u : ByteArray) (A : List Ten) (T : Ten) (B : List Ten) (U : List Crd) (c : Crd) (V : List Crd) : Prop where
  ten : S.ts = A ++ T :: B
  crd : T.us = U ++ c :: V
  name : T.name = t
  user : c.user = (nameA u).1
  fine : (nameA u).2 = 0
  is : aone S.a t u = some c.a
  upd : ∀ c' : Crd, ∀ f : ACrd → ACrd, c'.user = c.user → c'.a = f c.a → (A ++ { T with us := U ++ c' :: V } :: B).map Ten.a = atenU S.a.ts t (fun us => ausrU us (nameA u).1 f)
  del : (A ++ { T with us := U ++ V } :: B).map Ten.a = atenU S.a.ts t (fun us => ausrD us (nameA u).1)
  mdel : (U ++ V).map (fun c : Crd => (c.user, ptr c.b)) = Sx.mdel T.m (nameA u).1
  look : mlook S.ml t = some (.map (some T.b))
theorem usr_some {S : Sto} {t u : ByteArray} {c : Crd} (h : S.usr t u = some c) : ∃ A T B U V, At S t u A T B U c V := by
  unfold Sto.usr at h
  split at h
  · rename_i he
    rcases look_ten t S.ts with ⟨A, T, B, eT, h0, h1, h2, h3, h4, _⟩ | ⟨h1, h2, h3⟩
    · rw [h0] at h
      have h' : crdO T.us (nameA u).1 = some c := h
      rcases look_crd (nameA u).1 T.us with ⟨U, c', V, eU, q0, q1, q2, q3, q4, q5, q6, q7⟩ | ⟨q1, q2, q3⟩
      · rw [q0] at h'
        obtain rfl := Option.some.inj h'
        refine ⟨A, T, B, U, V, eT, eU, h1, q1, he, ?_, fun c1 f e1 e2 => ?_, ?_, q6, h2⟩
        · unfold aone aget
          rw [if_pos he, show aten S.a.ts t = _ from h3]
          exact q3
        · refine h4 { T with us := U ++ c1 :: V } (fun us => ausrU us (nameA u).1 f) h1 ?_
          exact q4 c1 f (e1.trans q1) e2
        · exact h4 { T with us := U ++ V } (fun us => ausrD us (nameA u).1) h1 q5
      · rw [q3] at h'; cases h'
    · rw [h3] at h; cases h
  · cases h
theorem usr_none {S : Sto} {t u : ByteArray} (h : S.usr t u = none) : aone S.a t u = none := by
  unfold Sto.usr at h
  unfold aone aget
  split at h
  · rename_i he
    rw [if_pos he]
    rcases look_ten t S.ts with ⟨A, T, B, eT, h0, h1, h2, h3, _⟩ | ⟨h1, h2, h3⟩
    · rw [h0] at h
      have h' : crdO T.us (nameA u).1 = none := h
      rw [show aten S.a.ts t = _ from h3]
      rcases look_crd (nameA u).1 T.us with ⟨U, c', V, eU, q0, q1, q2, q3, _⟩ | ⟨q1, q2, q3⟩
      · rw [q0] at h'; cases h'
      · exact q2
    · rw [show aten S.a.ts t = none from h2]; rfl
  · rename_i he
    rw [if_neg he]
theorem crd_sec {c : Crd} {w : World} (h : (crdF c).p w) : SRd c.sec.x c.sec.a w := Sec.rd fun f hf => h.1 f (by
  unfold Crd.fs Crd.parts
  exact List.mem_cons_of_mem _ (List.mem_cons_of_mem _ hf))
theorem crd_strs {c : Crd} {w : World} (h : (crdF c).p w) : Rd 1 c.rA c.roles.length (strs c.roles) w := h.1 (strsF c.rA c.roles) (by simp [Crd.fs, Crd.parts])
structure CSz (a : ACrd) : Prop where
  sec : ASz a.sec
  roles : a.roles.length ≤ 1000000
def Crd.ss (c : Crd) : List SL := .v (.string c.tenant) :: .v (.string c.user) :: (c.sec.x.ss ++ [.v (.int .u64 c.gen), .v (.slice c.rA c.roles.length c.rc), .v (.bool c.revoked)])
theorem ccopyOf_c (w : World) (c : Crd) (h1 : SRd c.sec.x c.sec.a w) (h2 : Rd 1 c.rA c.roles.length (strs c.roles) w) (hz : CSz c.a) :
    Con Tryz.prog n_cred_Cred_copyOf #[.agg c.vs.toArray] w [] fun v Fs => ∃ c' : Crd, c'.a = c.a ∧ v = .agg c'.vs.toArray ∧ Fs = [srowF c'.rA c'.roles c'.rc, c'.sec.ha1.f, c'.sec.server.f, c'.sec.stored.f, c'.sec.salt.f] := by
  have g := good_cred_Cred_copyOf w (Un [])
  refine con_of_sx (cx := cx_cred_Cred_copyOf w (Un [])) g b_cred_Cred_copyOf rfl rfl (β := Va.z) [.agg c.ss] 0 [] [oldF w] rfl rfl (old_sat rfl) ?_
  have hS : ∀ {n : Nat} {F : List Fact}, Sub (cx_cred_Cred_copyOf w (Un [])) n [⟨1, ty_cred_Cred, ti143.zero.map SL.v⟩, ⟨0, ty_cred_Cred, c.ss⟩] F [⟨0, ty_cred_Cred, c.ss⟩] [] := fun {n F} => Sub.of (List.sublist_cons_self _ _) (List.nil_sublist _)
  refine draw_rule g p_cred_Cred_copyOf_1 (by kernel_rfl) [⟨0, ty_cred_Cred, c.ss⟩] [] hS ?_
  refine call_con [] (fun β w' hs => scopyOf_c w' c.sec.x c.sec.a (h1.old (hs.get 0 rfl)) hz.sec) ?_
  rintro v Fs ⟨y, hy, rfl, rfl⟩
  refine ⟨hS, ?_⟩
  refine call_con [] (fun β w' hs => cloneS_c w' c.rA c.roles c.rc (Rd.old h2 (hs.get 4 rfl)) hz.roles) ?_
  rintro v Fs ⟨A', c', rfl, _, _, rfl⟩
  refine ⟨hS, ?_⟩
  intro β w' hs
  refine (hs.keepB (List.nil_sublist _)).fin [0, 1, 2, 3, 4] ⟨⟨0, c.tenant, c.user, y, c.gen, A', c', c.roles, c.revoked⟩, ?_, rfl, rfl⟩ rfl rfl rfl ⟨rfl, rfl, rfl, rfl, rfl, trivial⟩
  show ACrd.mk _ _ y.a _ _ _ = ACrd.mk _ _ _ _ _ _
  rw [hy]
def stoR (S : Sto) : Sto := { S with reads := IntKind.u64.wrap (S.reads + 1) }
theorem stoR_usr (S : Sto) (t u : ByteArray) : (stoR S).usr t u = S.usr t u := rfl
theorem sto_reads {cx : Cx} {β : Va} {n : Nat} {H : List Bk} {w : World} {S : Sto} (h : Sat cx β n H [stoF S, namF] w) (r : Int) :
    ∃ w', (storeCells ((⟨S.b, 0, none⟩ : Addr).add 2) [.int .u64 r] 0).run cx.P w = .ok () w' ∧ Sat cx β n H [stoF { S with reads := r }, namF] w' := by
  have h1 := h.unsep 0 rfl
  obtain ⟨w', e1, e2⟩ := h1.bkSet 0 (o := 2) (us := [.int .u64 r]) rfl (by simp [Sto.vs]) (fun u hu => by obtain rfl := List.mem_singleton.1 hu; rfl)
  exact ⟨w', e1, e2.sep [0, 1, 2]⟩
def crd0 : Crd := ⟨0, ByteArray.empty, ByteArray.empty, ⟨⟨none, 0, [], Nat.le_refl 0⟩, 0, ⟨none, 0, [], Nat.le_refl 0⟩, ⟨none, 0, [], Nat.le_refl 0⟩, ⟨none, 0, [], Nat.le_refl 0⟩⟩, 0, none, 0, [], false⟩
def crdRows (c : Crd) : List Fact := [srowF c.rA c.roles c.rc, c.sec.ha1.f, c.sec.server.f, c.sec.stored.f, c.sec.salt.f]
def findOut (S : Sto) (t u : ByteArray) (v : Value) (Fs : List Fact) : Prop := match aone S.a t u with
  | none => v = .tuple #[.agg crd0.vs.toArray, .bool false] ∧ Fs = [stoF (stoR S)]
  | some a => ∃ c : Crd, c.a = a ∧ v = .tuple #[.agg c.vs.toArray, .bool true] ∧ Fs = crdRows c ++ [stoF (stoR S)]
theorem add2 (b o j : Nat) : ((⟨b, o, none⟩ : Addr).add j) = ⟨b, o + j, none⟩ := by rw [add_none]
theorem find_c (w : World) (S : Sto) (t u : ByteArray) (hu : u.size ≤ 100000) (hz : ∀ a, aone S.a t u = some a → CSz a) (hm : Mem w [stoF S, namF]) : Con Tryz.prog n_cred_Store_Find #[ptr S.b, .string t, .string u] w [stoF S] (findOut S t u) := by
  have g := good_cred_Store_Find w (Un [stoF S])
  refine con_of_sx (cx := cx_cred_Store_Find w (Un [stoF S])) g b_cred_Store_Find rfl rfl (β := Va.z) [.c (.v (ptr S.b)), .c (.v (.string t)), .c (.v (.string u))] 0 [] [stoF S, namF] rfl rfl (hm.sat0 rfl (ownIn (Gs := [stoF S]) (fun f hf => by
    obtain rfl := List.mem_singleton.1 hf; rfl))) ?_
  refine ⟨.int .u64 S.reads, fun β w' hs => bkc (sto_bk (hs.get 0 rfl)) rfl, IntKind.u64.wrap (S.reads + 1), rfl, ?_⟩
  refine ⟨[stoF (stoR S), namF], fun β w' hs => sto_reads hs _, ?_⟩
  cases hc : S.usr t u with
  | none =>
    refine call_pu (v := .pointer none) (fun β w' hs => by
      have h := get_c w' (stoR S) t u (hs.get 0 rfl) (hs.getLt 0 rfl) hu (namF_T (hs.get 1 rfl))
      rw [stoR_usr, hc] at h
      exact h) ?_
    intro β w' hs
    refine (hs.keepB (List.nil_sublist _)).fin [0] ?_
    unfold findOut
    rw [usr_none hc]
    exact ⟨rfl, rfl⟩
  | some c =>
    obtain ⟨A, T, B, U, V, at_⟩ := usr_some hc
    refine call_pu (v := ptr c.b) (fun β w' hs => by
      have h := get_c w' (stoR S) t u (hs.get 0 rfl) (hs.getLt 0 rfl) hu (namF_T (hs.get 1 rfl))
      rw [stoR_usr, hc] at h
      exact h) ?_
    have hcp : ∀ {w'}, (stoF (stoR S)).p w' → (crdF c).p w' := fun hp => ten_crd (sto_ten hp at_.ten) at_.crd
    refine ⟨c.vs, rfl, fun β w' hs j v hv => ?_, ?_⟩
    · rw [add2]
      exact bkc (crd_bk (hcp (hs.get 0 rfl))) (by rw [Nat.zero_add]; exact hv)
    refine call_con [] (fun β w' hs => ccopyOf_c w' c (crd_sec (hcp (hs.get 0 rfl))) (crd_strs (hcp (hs.get 0 rfl))) (hz _ at_.is)) ?_
    rintro v Fs ⟨c', hc', rfl, rfl⟩
    intro β w' hs
    refine (hs.keepB (List.nil_sublist _)).fin [0, 1, 2, 3, 4, 5] ?_ rfl rfl rfl ⟨rfl, rfl, rfl, rfl, rfl, rfl, trivial⟩
    unfold findOut
    rw [at_.is]
    exact ⟨c', hc', rfl, rfl⟩
def hndF (h bx us : Nat) (n g r t : Value) : Fact := bkF h ty_order_Hands [.pointer (some ⟨bx, 0, none⟩), ptr us, n, g, r, t, .pointer none]
def masL : List UInt8 := [109, 97, 115, 116, 101, 114]
set_option maxHeartbeats 1000000 in
theorem hands24_c (w : World) (hm : Mem w [oddF 5, firstF 2]) : Con Tryz.prog n_ostiarylaw24_hands #[.bool false, .int .i64 4, .int .i64 4] w [] fun v Fs =>
    ∃ h b S n g r t B y, v = .pointer (some ⟨h, 0, none⟩) ∧ S.a = (sto0 0 0).a ∧ y.ts.map (·.1) = B.L ∧ BInv B ∧ B.sym = false ∧ B.L.length ≤ 10 ∧ Fs = [hndF h b S.b n g r t, bxF b B y, stoF S] := by
  have g := good_ostiarylaw24_hands w (Un [])
  refine con_go (cx := cx_ostiarylaw24_hands w (Un [])) g b_ostiarylaw24_hands [.c (.v (.bool false)), .c (.v (.int .i64 4)), .c (.v (.int .i64 4))] [oddF 5, firstF 2] hm ?_
  refine call_con [] (fun β w' hs => newX_c w' false) ?_
  rintro v Fs ⟨b, y0, rfl, hy0, rfl⟩
  refine call_con [] (fun β w' hs => cnew_c w') ?_
  rintro v Fs ⟨us, um, rfl, rfl⟩
  refine call_con [] (fun β w' hs => nonNew_c w' 4 (by decide) (by decide)) ?_
  rintro v Fs ⟨nb, rfl, rfl⟩
  refine call_con [] (fun β w' hs => grdNew_c w' 4 (by decide) (by decide)) ?_
  rintro v Fs ⟨gb, rfl, rfl⟩
  intro b1
  refine ⟨0, _, rfl, ?_⟩
  have hi0 := box0i false
  obtain ⟨B, hB⟩ : ∃ B : Bx.Box, (⟨false, false, []⟩ : Bx.Box) = B := ⟨_, rfl⟩
  have hL0 : B.L.length ≤ 0 := by rw [← hB]; exact Nat.le_refl _
  have hsy : B.sym = false := by rw [← hB]
  have hts0 : y0.ts.map (·.1) = B.L := by rw [← hB, hy0]; rfl
  rw [hB] at hi0 ⊢
  refine call_con [2] (fun β w' hs => newK_c w' b B y0 (some ⟨b1, 0, none⟩) masL 6 3 (by decide) (by decide) (by decide) (by decide) hts0 hi0 (by omega) (hs.mem.take (js := [2, 0, 3, 4]) rfl)) ?_
  rintro v Fs ⟨r, y1, rfl, rb1, _, k1, g1, hy1, rfl⟩
  generalize macB B masL (keyT 1).data.toList = q1 at *
  obtain ⟨p1, B1⟩ := q1
  have l1 := g1.1.len
  have hi1 := g1.1.inv
  have hs1 := g1.1.sym
  simp only at l1 hy1 k1 hi1 hs1
  refine call_con [] (fun β w' hs => newDesk_c w' r.b 200) ?_
  rintro v Fs (⟨_, _, db, m1, m2, rfl, rfl⟩ | ⟨h, _⟩)
  rotate_left
  · exact absurd ⟨by decide, by decide⟩ h
  intro β w' hs
  exact hs.ofBk.fin [0, 3, 5] ⟨β 0, b, sto0 us um, .pointer (some ⟨nb, 0, none⟩), .pointer (some ⟨gb, 0, none⟩), ptrR r.b, .pointer (some ⟨db, 0, none⟩), B1, y1, rfl, rfl, hy1, hi1, by rw [hs1, hsy], by omega, rfl⟩ rfl rfl rfl ⟨rfl, rfl, rfl, trivial⟩
theorem said_c (w : World) (e : Int) : Pu Tryz.prog n_order_said #[.int .i64 e] w (.tuple #[.string (if e = 0 then mkS [111, 107] else mkS []), .int .i64 e]) := by
  have g := good_order_said w (Un [])
  refine con_of_sx (cx := cx_order_said w (Un [])) g b_order_said rfl rfl (β := Va.z) [.c (.v (.int .i64 e))] 0 [] [] rfl rfl (Sat.start rfl) ?_
  refine BIf.not (BIf.dec (fun h => ?_) (fun h => ?_))
  · have h0 : e = 0 := h
    subst h0
    intro β w' hs
    exact hs.fin [] ⟨rfl, rfl⟩
  · have h0 : ¬ e = 0 := h
    intro β w' hs
    rw [if_neg h0]
    exact hs.fin [] ⟨rfl, rfl⟩
def CArgs (A : Option Addr) (a : List (List UInt8)) (w : World) : Prop := Rd 1 A a.length (tx a) w
theorem clT_c (w : World) (A : Option Addr) (a : List (List UInt8)) (c : Nat) (hr : CArgs A a w) (hn : a.length ≤ 100000) : Con Tryz.prog n_slices_Clone_string_string #[.slice A a.length c] w [] fun v Fs => ∃ A' c', v = .slice A' a.length c' ∧ a.length ≤ c' ∧ Fs = [txF A' a c'] := by
  have g := good_slices_Clone_string_string w (Un [])
  have hml := maxLen_eq
  refine con_of_sx (cx := cx_slices_Clone_string_string w (Un [])) g b_slices_Clone_string_string rfl rfl (β := Va.z) [.c (.v (.slice A a.length c))] 0 [] [oldF w] rfl rfl (old_sat rfl) ?_
  refine BIf.mk (fun h => ?_) (fun h => ?_)
  · have hA : A = none := by simpa using h
    subst hA
    have ha : a = [] := by
      cases a with
      | nil => rfl
      | cons x r => obtain ⟨ad, q, _⟩ := hr.2 (by simp); cases q
    subst ha
    intro β w' hs
    exact (hs.nilRow ty_string 1).fin [0] ⟨none, 0, rfl, Nat.le_refl _, rfl⟩ rfl rfl rfl ⟨rfl, trivial⟩
  intro b1
  refine ⟨0, 0, a.length, [], tx a, _, rfl, fun β w' hs => Rd.old hr (hs.get 1 rfl), (fun u hu => by obtain ⟨s, rfl⟩ := tx_one a u hu; rfl), Nat.zero_add _, rfl, by omega, by show a.length * 16 ≤ _; omega, ?_⟩
  intro A' c' h1 h2 h3 β w' hs
  exact hs.fin [0] ⟨A', c', rfl, h1, rfl⟩ rfl rfl rfl ⟨rfl, trivial⟩
def cmdV (v : List UInt8) (A : Option Addr) (n c : Nat) : Value := .agg #[.string (mkS v), .slice A n c]
def tenAdd : List UInt8 := [116, 101, 110, 97, 110, 116, 45, 97, 100, 100]
def usrAdd : List UInt8 := [117, 115, 101, 114, 45, 97, 100, 100]
def shwUsr : List UInt8 := [115, 104, 111, 119, 45, 117, 115, 101, 114]
def argF (A : Option Addr) (a : List (List UInt8)) : Fact := rdF 1 A a.length (tx a)
theorem four_one (u : Value) (l : List (List UInt8)) (h : u ∈ tx l) : u.oneCell' = true := by
  obtain ⟨s, rfl⟩ := tx_one l u h
  rfl
set_option maxHeartbeats 1000000 in
theorem usersTen_c (w : World) (h b : Nat) (S : Sto) (n g0 r t : Value) (x : List UInt8) (hx : x.length ≤ 100000) (A : Option Addr) (c : Nat) (hm : Mem w ([stoF S, hndF h b S.b n g0 r t] ++ [argF A [x]])) :
    Con Tryz.prog n_order_Hands_users #[.pointer (some ⟨h, 0, none⟩), cmdV tenAdd A 1 c] w [stoF S, hndF h b S.b n g0 r t] fun v Fs => ∃ S' : Sto, S'.a = (addT S.a (mkS x)).2 ∧ S'.b = S.b ∧ v = .tuple #[.string (if (addT S.a (mkS x)).1 = 0 then mkS [111, 107] else mkS []), .int .i64 (addT S.a (mkS x)).1, .bool true] ∧ Fs = [stoF S', hndF h b S.b n g0 r t] := by
  have g := good_order_Hands_users w (Un [stoF S, hndF h b S.b n g0 r t])
  have hml := maxLen_eq
  refine con_go (cx := cx_order_Hands_users w (Un [stoF S, hndF h b S.b n g0 r t])) g b_order_Hands_users [.c (.v (.pointer (some ⟨h, 0, none⟩))), .agg [.v (.string (mkS tenAdd)), .v (.slice A 1 c)]] [argF A [x]] hm ?_
  refine call_con [] (fun β w' hs => clT_c w' A [x] c (hs.get 2 rfl) (by show 1 ≤ 100000; decide)) ?_
  rintro v Fs ⟨A1, c1, rfl, h1, rfl⟩
  intro b1
  refine ⟨1, 1, 4, tx [x], tx [[], [], []], tx [x, [], [], []], rfl, fun β w' hs => row_rd (hs.get 0 rfl), fun u hu => four_one u _ hu, rfl, rfl, by omega, by show 4 * 16 ≤ _; omega, ?_⟩
  intro A2 c2 p2 _ h2
  obtain ⟨ad2, rfl⟩ : ∃ ad, A2 = some ad := by
    cases A2 with
    | none => exact absurd (h2 rfl).2 (by decide)
    | some ad => exact ⟨ad, rfl⟩
  refine draw_rule g p_order_Hands_users_6 (by kernel_rfl) [] [rowF ty_string 1 (.slice (some ad2) 4 c2) 4 (tx [x, [], [], []]), hndF h b S.b n g0 r t] (Sub.of (List.nil_sublist _) (((((List.nil_sublist _).cons_cons _).cons _).cons_cons _).cons _)) ?_
  refine ⟨_, fun β w' hs => cell_bk (hs.get 1 rfl) (o := 1) rfl, ?_⟩
  refine ⟨_, 0, rfl, rfl, by omega, ?_⟩
  refine ⟨.string (mkS x), fun β w' hs => Rd.cell1 (row_rd (hs.get 0 rfl)) rfl, ?_⟩
  refine call_con [2] (fun β w' hs => addTenant_c w' S (mkS x) (by rw [mkS_len]; omega) (hs.mem.take (js := [2]) rfl)) ?_
  rintro v Fs ⟨S', rfl, hS1, hS2, rfl⟩
  refine ⟨Sub.of (List.nil_sublist _) ((((List.nil_sublist _).cons_cons _).cons_cons _).cons _ |>.cons _), ?_⟩
  refine call_pu (fun β w' hs => said_c w' _) ?_
  intro β w' hs
  exact (hs.keepB (List.nil_sublist _)).fin [0, 3] ⟨S', hS1, hS2, rfl, rfl⟩ rfl rfl rfl ⟨rfl, rfl, trivial⟩
theorem usersNo_c (w : World) (hp : Value) (v : List UInt8) (hv : v = usrAdd ∨ v = shwUsr) (A : Option Addr) (a : List (List UInt8)) (hn : a.length ≤ 1000) (c : Nat) (hm : Mem w [argF A a]) :
    Con Tryz.prog n_order_Hands_users #[hp, cmdV v A a.length c] w [] fun u Fs => u = .tuple #[.string (mkS []), .int .i64 0, .bool false] ∧ Fs = [] := by
  have g := good_order_Hands_users w (Un [])
  have hml := maxLen_eq
  refine con_go (cx := cx_order_Hands_users w (Un [])) g b_order_Hands_users [.c (.v hp), .agg [.v (.string (mkS v)), .v (.slice A a.length c)]] [argF A a] hm ?_
  refine call_con [] (fun β w' hs => clT_c w' A a c (hs.get 0 rfl) (by omega)) ?_
  rintro u Fs ⟨A1, c1, rfl, h1, rfl⟩
  intro b1
  refine ⟨1, a.length, a.length + 3, tx a, tx [[], [], []], tx (a ++ [[], [], []]), rfl, fun β w' hs => row_rd (hs.get 0 rfl), fun u hu => four_one u _ hu, rfl, by simp [tx], by omega, by show (a.length + 3) * 16 ≤ _; omega, ?_⟩
  intro A2 c2 p2 _ h2
  rcases hv with rfl | rfl
  · intro β w' hs
    exact (hs.keepB (List.nil_sublist _)).fin [] ⟨rfl, rfl⟩
  · intro β w' hs
    exact (hs.keepB (List.nil_sublist _)).fin [] ⟨rfl, rfl⟩
end Go.Proofs.YteenjgfbbkdlhaaGreatDoor.Sx

namespace Go.Proofs.YteenjgfbbkdlhaaGreatDoor.Sx
open Go
def u8n (n : Nat) : UInt8 := UInt8.ofNat n
def digA (c : UInt8) : Option Nat := if 48 ≤ c.toNat ∧ c.toNat ≤ 57 then some (c.toNat - 48) else if 97 ≤ c.toNat ∧ c.toNat ≤ 102 then some (c.toNat - 97 + 10) else none
def unhexA : List UInt8 → Option (List UInt8)
  | a :: b :: r => match digA a, digA b, unhexA r with
    | some x, some y, some l => some (u8n (x * 16 + y) :: l)
    | _, _, _ => none
  | [_] => none
  | [] => some []
theorem hi2 {y : Nat} (h : y < 32) : 192 ||| UInt8.ofNat y = UInt8.ofNat (192 + y) := by
  have key : ∀ n : _root_.Fin 32, 192 ||| UInt8.ofNat n.1 = UInt8.ofNat (192 + n.1) := by decide +kernel
  exact key ⟨y, h⟩
theorem hi3 {y : Nat} (h : y < 16) : 224 ||| UInt8.ofNat y = UInt8.ofNat (224 + y) := by
  have key : ∀ n : _root_.Fin 16, 224 ||| UInt8.ofNat n.1 = UInt8.ofNat (224 + n.1) := by decide +kernel
  exact key ⟨y, h⟩
theorem hi4 {y : Nat} (h : y < 8) : 240 ||| UInt8.ofNat y = UInt8.ofNat (240 + y) := by
  have key : ∀ n : _root_.Fin 8, 240 ||| UInt8.ofNat n.1 = UInt8.ofNat (240 + n.1) := by decide +kernel
  exact key ⟨y, h⟩
end Go.Proofs.YteenjgfbbkdlhaaGreatDoor.Sx

namespace Go.Proofs.YteenjgfbbkdlhaaGreatDoor.Sx
open Go
attribute [local irreducible] Calls
def lead (b : UInt8) : Option (Nat × Nat) :=
  if 194 ≤ b.toNat ∧ b.toNat ≤ 223 then some (2, b.toNat - 192)
  else if 224 ≤ b.toNat ∧ b.toNat ≤ 239 then some (3, b.toNat - 224)
  else if 240 ≤ b.toNat ∧ b.toNat ≤ 244 then some (4, b.toNat - 240)
  else none
def piecesA (k : Nat) : List UInt8 → List (List UInt8)
  | [] => []
  | c :: r => (c :: r).take (k + 1) :: piecesA k ((c :: r).drop (k + 1))
termination_by l => l.length
decreasing_by simp only [List.length_drop, List.length_cons]; omega
theorem pieces_nil (k : Nat) : piecesA k [] = [] := by rw [piecesA]
theorem pieces_ne (k : Nat) {l : List UInt8} (h : l ≠ []) : piecesA k l = l.take (k + 1) :: piecesA k (l.drop (k + 1)) := by
  cases l with
  | nil => exact absurd rfl h
  | cons c r => rw [piecesA]
theorem pieces_len (k : Nat) : ∀ (m : Nat) (l : List UInt8), l.length ≤ m → (piecesA k l).length ≤ l.length
  | 0, l, h => by
    obtain rfl : l = [] := List.length_eq_zero_iff.1 (by omega)
    rw [pieces_nil]; exact Nat.zero_le _
  | m + 1, l, h => by
    by_cases hl : l = []
    · rw [hl, pieces_nil]; exact Nat.zero_le _
    · have h0 : 0 < l.length := List.length_pos_iff.2 hl
      rw [pieces_ne k hl, List.length_cons]
      have := pieces_len k m (l.drop (k + 1)) (by rw [List.length_drop]; omega)
      rw [List.length_drop] at this
      omega
theorem mkS_take (l : List UInt8) (n : Nat) : (mkS l).extract 0 n = mkS (l.take n) := by
  apply ByteArray.ext
  simp [mkS]
theorem mkS_drop (l : List UInt8) (n : Nat) : (mkS l).extract n (mkS l).size = mkS (l.drop n) := by
  apply ByteArray.ext
  simp [mkS, ByteArray.size]
  rw [List.take_of_length_le (by rw [List.length_drop]; omega)]
theorem mkS_sz (l : List UInt8) : (mkS l).size = l.length := by simp [mkS, ByteArray.size]
theorem mkS_of (s : ByteArray) : mkS s.data.toList = s := by simp [mkS]
def insS (L : List ByteArray) (pre : List ByteArray) (x : ByteArray) (args : Array Value) (X : Fact) : Prop := args = #[.string x] ∧ X = noF ∧ L[pre.length]? = some x
def grpEnd (L : List ByteArray) (J Jx : List ByteArray → Fact → Prop) (Fs : List Fact) : Prop :=
  ∃ f Fs', Fs = f :: Fs' ∧ ((∃ xs, J xs f ∧ xs = L ∧ Fs' = []) ∨ (∃ pre, Jx pre f ∧ Fs' = []))
theorem grp_it (l : Nat) (w : World) (bs bk k : Nat) (s0 : List UInt8) (f0 R : Fact) (J Jx : List ByteArray → Fact → Prop) (kk : Int) (hkk : ((k + 1 : Nat) : Int) = kk) (hk : k ≤ 1000) (hL : s0.length ≤ 1000000) (hJ0 : J [] f0) (hJo : ∀ pre f, J pre f → f.own = true) (hRo : R.own = false) (hY : Yc Tryz.prog l J Jx R (insS ((piecesA k s0).map mkS)))
    (hm : Mem w (f0 :: R :: [bkF bs ty_string [.string (mkS s0)], bkF bk ty_int [.int .i64 kk]])) :
    Con Tryz.prog n_b64_Groups_1 #[.func (.yield l) #[] #[], .pointer (some ⟨bs, 0, none⟩), .pointer (some ⟨bk, 0, none⟩)] w [f0, bkF bs ty_string [.string (mkS s0)], bkF bk ty_int [.int .i64 kk]] (fun _ Fs => grpEnd ((piecesA k s0).map mkS) J Jx Fs) := by
  have g := good_b64_Groups_1 w (Un [f0, bkF bs ty_string [.string (mkS s0)], bkF bk ty_int [.int .i64 kk]]) [bs, bk]
  have hs0 : Sat (cx_b64_Groups_1 w (Un [f0, bkF bs ty_string [.string (mkS s0)], bkF bk ty_int [.int .i64 kk]]) [bs, bk]) (Va.of fun i => [bs, bk].getD i 0) 2 [] (f0 :: R :: [bkF bs ty_string [.string (mkS s0)], bkF bk ty_int [.int .i64 kk]]) w := by
    refine hm.sat rfl (fun f hf ho k hk => ?_) ⟨Nat.le_refl 2, fun i _ => rfl⟩
    simp only [List.mem_cons, List.not_mem_nil, or_false] at hf
    rcases hf with rfl | rfl | rfl | rfl
    · exact ⟨_, by simp, hk⟩
    · rw [hRo] at ho; cases ho
    · exact ⟨bkF bs ty_string [.string (mkS s0)], by simp, hk⟩
    · exact ⟨_, by simp, hk⟩
  have hs1 := (hs0.toBk 3 rfl 1 (by decide) rfl).toBk 2 rfl 0 (by decide) rfl
  refine con_of_sx (cx := cx_b64_Groups_1 w (Un [f0, bkF bs ty_string [.string (mkS s0)], bkF bk ty_int [.int .i64 kk]]) [bs, bk]) g b_b64_Groups_1 rfl rfl (β := Va.of fun i => [bs, bk].getD i 0) [.c (.v (.func (.yield l) #[] #[])), .c (.p 0 0), .c (.p 1 0)] 2 _ _ rfl rfl hs1 ?_
  obtain ⟨L, hLd⟩ : ∃ L, (piecesA k s0).map mkS = L := ⟨_, rfl⟩
  rw [hLd] at hY ⊢
  refine loop_rule (ι := List UInt8 × List ByteArray × Fact) 2 (fun i => [(0, .c (.v (.func (.yield l) #[] #[]))), (1, .c (.p 0 0)), (2, .c (.p 1 0))]) (fun i => [⟨0, ty_string, [.v (.string (mkS i.1))]⟩, ⟨1, ty_int, [.v (.int .i64 kk)]⟩]) (fun i => [i.2.2, R])
    (fun i => J i.2.1 i.2.2 ∧ L = i.2.1 ++ (piecesA k i.1).map mkS ∧ i.1.length ≤ 1000000) (fun i => i.1.length) (s0, [], f0) ⟨hJ0, hLd.symm, hL⟩ (Ent.mk' ⟨rfl, rfl, rfl, trivial⟩ rfl (fun β w' hs => hs)) g ?_
  rintro ⟨r, pre, f⟩ ⟨hJ, hpre, hrl⟩
  simp only at hJ hpre hrl
  have hfo := hJo _ _ hJ
  simp only
  have hsz := mkS_sz r
  obtain ⟨z, hz⟩ : ∃ z : Int, ((mkS r).size : Int) = z := ⟨_, rfl⟩
  by_cases hr : r = []
  · subst hr
    rw [pieces_nil, List.map_nil, List.append_nil] at hpre
    intro β w' hs
    exact (hs.keepB (List.nil_sublist _)).fin [0] ⟨f, _, rfl, .inl ⟨pre, hJ, hpre.symm, rfl⟩⟩ rfl rfl rfl ⟨hfo, trivial⟩
  have hr0 : 0 < r.length := List.length_pos_iff.2 hr
  refine BIf.dec (fun _ => ?_) (fun h => absurd (show (0 : Int) < ((mkS r).size : Int) by omega) h)
  refine BIf.dec (fun _ => ?_) (fun h => absurd (show (0 : Int) < kk by omega) h)
  obtain ⟨m, hm⟩ : ∃ m : Nat, m = min r.length (k + 1) := ⟨_, rfl⟩
  have hmt : r.take m = r.take (k + 1) := by
    rcases Nat.le_total r.length (k + 1) with h | h
    · rw [hm, Nat.min_eq_left h, List.take_length, List.take_of_length_le h]
    · rw [hm, Nat.min_eq_right h]
  have hmd : r.drop m = r.drop (k + 1) := by
    rcases Nat.le_total r.length (k + 1) with h | h
    · rw [hm, Nat.min_eq_left h, List.drop_length, List.drop_of_length_le h]
    · rw [hm, Nat.min_eq_right h]
  refine ⟨(m : Int), by show min _ _ = _; omega, ?_⟩
  refine ⟨m, 0, rfl, rfl, by omega, Nat.zero_le _, ?_⟩
  have hx : (mkS r).extract 0 m = mkS (r.take (k + 1)) := by rw [mkS_take, hmt]
  have hd : (mkS r).extract m (mkS r).size = mkS (r.drop (k + 1)) := by rw [mkS_drop, hmd]
  have hLx : L[pre.length]? = some (mkS (r.take (k + 1))) := by
    rw [hpre, pieces_ne k hr, List.map_cons, List.getElem?_append_right (Nat.le_refl _), Nat.sub_self]
    rfl
  refine yield_ro (X := noF) (x := mkS (r.take (k + 1))) hY 0 1 rfl hJ hfo rfl hRo (by decide) (fun β => ⟨by rw [← hx]; rfl, rfl, hLx⟩) rfl (fun β w _ => ⟨trivial, fun k hk => hk.elim, fun k _ h => h.elim⟩) ?_ ?_
  · intro f2 hfo2 hJ2
    refine ⟨(mkS r).size, m, rfl, rfl, Nat.le_refl _, by omega, ?_⟩
    refine ⟨(r.drop (k + 1), pre ++ [mkS (r.take (k + 1))], f2), ⟨hJ2, ?_, by show (r.drop (k + 1)).length ≤ _; rw [List.length_drop]; omega⟩, by show (r.drop (k + 1)).length < r.length; rw [List.length_drop]; omega, ?_⟩
    · show L = (pre ++ [mkS (r.take (k + 1))]) ++ (piecesA k (r.drop (k + 1))).map mkS
      rw [hpre, pieces_ne k hr, List.map_cons, List.append_assoc]
      rfl
    · simp only [← hd]
      exact Ent.same ⟨rfl, rfl, rfl, trivial⟩ rfl
  · intro f2 hfo2 hJ2 β w' hs
    exact (hs.keepB (List.nil_sublist _)).fin [0] ⟨f2, _, rfl, .inr ⟨_, hJ2, rfl⟩⟩ rfl rfl rfl ⟨hfo2, trivial⟩
theorem groups_c (w : World) (s : ByteArray) (kk : Int) : Con Tryz.prog n_b64_Groups #[.string s, .int .i64 kk] w [] (fun v Fs => ∃ bs bk, v = .func (.func n_b64_Groups_1) #[] #[.pointer (some ⟨bs, 0, none⟩), .pointer (some ⟨bk, 0, none⟩)] ∧ Fs = [bkF bs ty_string [.string s], bkF bk ty_int [.int .i64 kk]]) := by
  refine con_of_sx (cx := cx_b64_Groups w (Un [])) (good_b64_Groups w (Un [])) b_b64_Groups rfl rfl (β := Va.z) [.c (.v (.string s)), .c (.v (.int .i64 kk))] 0 [] [] rfl rfl (Sat.start rfl) ?_
  intro β w' hs
  exact hs.ofBk.ofBk.fin [0, 1] ⟨β 0, β 1, rfl, rfl⟩
theorem pieces_at (k : Nat) : ∀ (j : Nat) (l : List UInt8) (x : List UInt8), (piecesA k l)[j]? = some x → x = (l.drop ((k + 1) * j)).take (k + 1) ∧ (k + 1) * j < l.length ∧ ((piecesA k l).take j).flatten = l.take ((k + 1) * j)
  | j, l, x, h => by
    by_cases hl : l = []
    · rw [hl, pieces_nil] at h; simp at h
    · have h0 : 0 < l.length := List.length_pos_iff.2 hl
      rw [pieces_ne k hl] at h ⊢
      cases j with
      | zero =>
        obtain rfl : l.take (k + 1) = x := by simpa using h
        exact ⟨by simp, by simpa using h0, by simp⟩
      | succ j =>
        have h' : (piecesA k (l.drop (k + 1)))[j]? = some x := by simpa using h
        obtain ⟨h1, h2, h3⟩ := pieces_at k j (l.drop (k + 1)) x h'
        rw [List.length_drop] at h2
        refine ⟨?_, by rw [Nat.mul_succ]; omega, ?_⟩
        · rw [h1, List.drop_drop, Nat.mul_succ, Nat.add_comm (k + 1)]
        · rw [List.take_succ_cons, List.flatten_cons, h3, Nat.mul_succ, Nat.add_comm ((k + 1) * j) (k + 1)]
          exact List.take_add.symm
theorem pieces_flat (k : Nat) : ∀ (m : Nat) (l : List UInt8), l.length ≤ m → (piecesA k l).flatten = l
  | 0, l, h => by
    obtain rfl : l = [] := List.length_eq_zero_iff.1 (by omega)
    rw [pieces_nil]; rfl
  | m + 1, l, h => by
    by_cases hl : l = []
    · rw [hl, pieces_nil]; rfl
    · have h0 : 0 < l.length := List.length_pos_iff.2 hl
      rw [pieces_ne k hl, List.flatten_cons, pieces_flat k m _ (by rw [List.length_drop]; omega), List.take_append_drop]
theorem brow_cap {e : Nat} {c : Nat} {A : Option Addr} {l : List UInt8} {w : World} (h : (browF e A l c).p w) : l.length ≤ c := by
  rcases h.2 with ⟨_, h0⟩ | ⟨g, cap, cur, he, _, _, hnc, _⟩
  · omega
  · injection he with _ _ h3
    omega
def decOutP (l : Option (List UInt8)) (v : Value) (Fs : List Fact) : Prop := ∃ A l' c e, v = .tuple #[.slice A l'.length c, .int .i64 e] ∧ ((e = 0 ∧ l = some l') ∨ (e ≠ 0 ∧ l = none)) ∧ l'.length ≤ c ∧ Fs = [browF ty_uint8 A l' c]
theorem digA_lt {c : UInt8} {v : Nat} (h : digA c = some v) : v < 16 := by
  unfold digA at h
  split at h
  · injection h; omega
  · split at h
    · injection h; omega
    · cases h
theorem dig_ix (c : UInt8) : _root_.Go.Lib.indexByte [48, 49, 50, 51, 52, 53, 54, 55, 56, 57, 97, 98, 99, 100, 101, 102] c = match digA c with | some v => (v : Int) | none => -1 := by
  have h : ∀ n : _root_.Fin 256, _root_.Go.Lib.indexByte [48, 49, 50, 51, 52, 53, 54, 55, 56, 57, 97, 98, 99, 100, 101, 102] (UInt8.ofNat n.val) = match digA (UInt8.ofNat n.val) with | some v => (v : Int) | none => -1 := by decide +kernel
  have h1 := h ⟨c.toNat, c.toNat_lt⟩
  simpa using h1
def digV (c : UInt8) : Int := match digA c with | some v => (v : Int) | none => -1
theorem indexD_c (w : World) (c : UInt8) : Pu Tryz.prog n_strings_IndexByte #[.string ⟨#[48, 49, 50, 51, 52, 53, 54, 55, 56, 57, 97, 98, 99, 100, 101, 102]⟩, .int .u8 c.toNat] w (.int .i64 (digV c)) := by
  refine pu_of (Calls.mono (Tryz.strings_IndexByte ⟨#[48, 49, 50, 51, 52, 53, 54, 55, 56, 57, 97, 98, 99, 100, 101, 102]⟩ c.toNat w) ?_)
  rintro e w' ⟨rfl, rfl⟩
  refine ⟨_, rfl, ?_, Chg.refl _ _⟩
  unfold digV
  rw [← dig_ix]
  show Value.int .i64 (_root_.Go.Lib.indexByte _ ((c.toNat : Int).toNat.toUInt8)) = _
  rw [Int.toNat_natCast, show c.toNat.toUInt8 = c from UInt8.ofNat_toNat]
theorem or4_i64 {x y : Nat} (hx : x < 33554432) (hy : y < 16) : bits .or .i64 ((x * 16 : Nat) : Int) (y : Int) = ((x * 16 + y : Nat) : Int) := by
  show IntKind.i64.wrap (((BitVec.ofInt 64 ((x * 16 : Nat) : Int)) ||| (BitVec.ofInt 64 (y : Int))).toNat : Int) = _
  have h1 : (BitVec.ofInt 64 ((x * 16 : Nat) : Int)).toNat = x <<< 4 := by
    rw [BitVec.toNat_ofInt, Nat.shiftLeft_eq]
    omega
  have h2 : (BitVec.ofInt 64 (y : Int)).toNat = y := by
    rw [BitVec.toNat_ofInt]
    omega
  rw [BitVec.toNat_or, h1, h2, ← Nat.shiftLeft_add_eq_or_of_lt (by omega) x, Nat.shiftLeft_eq, wrap_i64 (by omega) (by omega)]
theorem unhexA_app : ∀ (a b : List UInt8), a.length % 2 = 0 → unhexA (a ++ b) = match unhexA a, unhexA b with | some x, some y => some (x ++ y) | _, _ => none
  | [], b, _ => by rw [List.nil_append]; cases h : unhexA b <;> simp [unhexA, h]
  | [_], b, h => by simp at h
  | x :: y :: r, b, h => by
    have h1 := unhexA_app r b (by simp only [List.length_cons] at h; omega)
    simp only [List.cons_append, unhexA, h1]
    cases digA x <;> cases digA y <;> cases unhexA r <;> cases unhexA b <;> simp
theorem unhexA_bad (b c : UInt8) : ∀ (a d : List UInt8), a.length % 2 = 0 → (digA b = none ∨ digA c = none) → unhexA (a ++ b :: c :: d) = none
  | [], d, _, h => by
    simp only [List.nil_append, unhexA]
    rcases h with h | h
    · rw [h]
    · rw [h]; cases digA b <;> rfl
  | [_], d, h, _ => by simp at h
  | x :: y :: r, d, h, hb => by
    have h1 := unhexA_bad b c r d (by simp only [List.length_cons] at h; omega) hb
    simp only [List.cons_append, unhexA, h1]
    cases digA x <;> cases digA y <;> rfl
theorem unhexA_odd : ∀ l : List UInt8, l.length % 2 = 1 → unhexA l = none
  | [], h => by simp at h
  | [_], _ => rfl
  | a :: b :: r, h => by
    simp only [unhexA, unhexA_odd r (by simp only [List.length_cons] at h; omega)]
    cases digA a <;> cases digA b <;> rfl
theorem Unhex_c (w : World) (s0 : List UInt8) (hL : s0.length ≤ 1000000) : Con Tryz.prog n_b64_Unhex #[.string (mkS s0)] w [] (decOutP (unhexA s0)) := by
  have g := good_b64_Unhex w (Un [])
  have hml := maxLen_eq
  have hsz := mkS_sz s0
  refine con_of_sx (cx := cx_b64_Unhex w (Un [])) g b_b64_Unhex rfl rfl (β := Va.z) [.c (.v (.string (mkS s0)))] 0 [] [] rfl rfl (Sat.start rfl) ?_
  refine ⟨by first | decide | omega, ?_⟩
  refine ⟨(((mkS s0).size % 2 : Nat) : Int), Int.ofNat_tmod _ _, ?_⟩
  refine BIf.not (BIf.dec (fun h0 => ?_) (fun h0 => ?_))
  · have h00 : (((mkS s0).size % 2 : Nat) : Int) = 0 := h0
    refine call_con [] (fun β w' hs => groups_c w' (mkS s0) 2) ?_
    rintro v Fs ⟨bs, bk, rfl, rfl⟩
    obtain ⟨L, hLd⟩ : ∃ L, (piecesA 1 s0).map mkS = L := ⟨_, rfl⟩
    have hLL : L.length ≤ 1000000 := by
      have h := pieces_len 1 _ s0 (Nat.le_refl _)
      rw [← hLd, List.length_map]
      omega
    refine range_rule (α := ByteArray) (ι := List UInt8 × Option Addr × Nat) (κ := Unit) g rfl (cv := [.pointer (some ⟨bs, 0, none⟩), .pointer (some ⟨bk, 0, none⟩)]) rfl (by kernel_rfl) 3 (Nat.le_refl 3)
      (fun pre i => pre = L.take pre.length ∧ unhexA (pre.map (·.data.toList)).flatten = some i.1 ∧ i.1.length ≤ pre.length) (fun i => [⟨2, ty_sl_uint8, [.v (.slice i.2.1 i.1.length i.2.2)]⟩, ⟨1, ty_api_Errno, [.v (.int .i64 0)]⟩, ⟨0, ty_sl_uint8, [.v (.slice none 0 0)]⟩]) (fun i => [browF ty_uint8 i.2.1 i.1 i.2.2]) (fun i => ⟨rfl, trivial⟩)
      (fun e pre _ => e = .ret ∧ unhexA s0 = none) (fun _ => [⟨1, ty_api_Errno, [.v (.int .i64 5)]⟩, ⟨0, ty_sl_uint8, [.v (.slice none 0 0)]⟩]) (fun _ => []) (fun _ => trivial)
      [bkF bs ty_string [.string (mkS s0)], bkF bk ty_int [.int .i64 2]] [] [] ⟨rfl, rfl, trivial⟩ (fun g h => by cases h) ([], none, 0) ⟨rfl, rfl, Nat.le_refl _⟩
      (fun β w hs => ⟨β, Agr.refl _ _, (hs.nilRow ty_uint8 1).perm [1, 2, 0]⟩) (insS L)
      (fun xs Fs' => xs = L ∧ Fs' = []) (fun _ Fs' => Fs' = [])
      (fun l w f0 R J Jx hJ0 hJo hRo hY hm => by
        have h := grp_it l w bs bk 1 s0 f0 R J Jx 2 rfl (by decide) (by omega) hJ0 hJo hRo (by rw [hLd]; exact hY) hm
        rw [hLd] at h
        exact h) ?_ ?_ ?_
    · rintro ⟨out, A, c⟩ pre x args X W S' lb bs' pn pn' hbs ⟨hpre, hun, hlen⟩ ⟨rfl, rfl, hx⟩
      obtain ⟨cs, hcs, rfl⟩ : ∃ cs, (piecesA 1 s0)[pre.length]? = some cs ∧ x = mkS cs := by
        rw [← hLd, List.getElem?_map] at hx
        obtain ⟨cs, h1, h2⟩ := Option.map_eq_some_iff.1 hx
        exact ⟨cs, h1, h2.symm⟩
      obtain ⟨p1, p2, p3⟩ := pieces_at 1 _ _ _ hcs
      have hpf : (pre.map (·.data.toList)).flatten = s0.take (2 * pre.length) := by
        conv => lhs; rw [hpre]
        rw [← hLd, ← List.map_take, List.map_map, show ((fun b : ByteArray => b.data.toList) ∘ mkS) = id from funext fun l => by simp [mkS], List.map_id]
        exact p3
      simp only at hun hlen
      have hun0 := hun
      rw [hpf] at hun
      have hcl : cs.length = 2 := by rw [p1, List.length_take, List.length_drop]; omega
      obtain ⟨ca, cb, rfl⟩ : ∃ a b, cs = [a, b] := by
        match cs, hcl with
        | [a, b], _ => exact ⟨a, b, rfl⟩
      have hdm : (mkS [ca, cb]).data.toList = [ca, cb] := by simp [mkS]
      have hcz : (mkS [ca, cb]).size = 2 := rfl
      have hs0 : s0 = s0.take (2 * pre.length) ++ ca :: cb :: (s0.drop (2 * pre.length)).drop 2 := by
        have h1 : [ca, cb] ++ (s0.drop (2 * pre.length)).drop 2 = s0.drop (2 * pre.length) := by
          rw [p1]; exact List.take_append_drop _ _
        have h2 := List.take_append_drop (2 * pre.length) s0
        rw [← h1] at h2
        exact h2.symm
      refine ⟨_, rfl, ?_⟩
      intro b1
      intro b2
      intro q1
      intro q2
      refine loop_rule (ι := Nat × Nat) 3 (fun j => [(2, .c (.p 0 0)), (3, .c (.p 1 0)), (4, .c (.p 2 0)), (6, .c (.v (.int .i64 (j.2 : Int)))), (18, .c (.v (.slice (some ⟨b1, 0, none⟩) (mkS [ca, cb]).size b2))), (19, .c (.v (.int .i64 ((mkS [ca, cb]).size : Int)))), (20, .c (.v (.int .i64 (j.1 : Int))))])
        (fun _ => [⟨2, ty_sl_uint8, [.v (.slice A out.length c)]⟩, ⟨1, ty_api_Errno, [.v (.int .i64 0)]⟩, ⟨0, ty_sl_uint8, [.v (.slice none 0 0)]⟩]) (fun _ => [rdoF 1 (some ⟨b1, 0, none⟩) (mkS [ca, cb]).size ((mkS [ca, cb]).data.toList.map byte), browF ty_uint8 A out c])
        (fun j => (j.1 = 0 ∧ j.2 = 0) ∨ (j.1 = 1 ∧ digA ca = some j.2) ∨ (j.1 = 2 ∧ ∃ x y, digA ca = some x ∧ digA cb = some y ∧ j.2 = x * 16 + y)) (fun j => 2 - j.1) (0, 0) (.inl ⟨rfl, rfl⟩) (Ent.mk' ⟨rfl, rfl, rfl, rfl, rfl, rfl, rfl, trivial⟩ rfl (fun β w' hs => hs.perm [0, 2])) (rcx_good g) ?_
      rintro ⟨j, N⟩ hj
      simp only at hj
      have hbad : digA ca = none ∨ digA cb = none → unhexA s0 = none := fun h => by
        rw [hs0]
        exact unhexA_bad ca cb _ _ (by rw [List.length_take]; omega) h
      refine BIf.dec (fun hlt => ?_) (fun hge => ?_)
      · have hlt0 : (j : Int) < ((mkS [ca, cb]).size : Int) := hlt
        obtain ⟨y, hy, hyb⟩ : ∃ y, [ca, cb][j]? = some y ∧ (j = 0 ∧ y = ca ∧ N = 0 ∨ j = 1 ∧ y = cb ∧ digA ca = some N) := by
          rcases hj with ⟨h1, h2⟩ | ⟨h1, h2⟩ | ⟨h1, _⟩
          · exact ⟨ca, by rw [h1]; rfl, .inl ⟨h1, rfl, h2⟩⟩
          · exact ⟨cb, by rw [h1]; rfl, .inr ⟨h1, rfl, h2⟩⟩
          · omega
        refine ⟨_, j, rfl, rfl, by omega, ?_⟩
        refine ⟨byte y, fun β w' hs => Rd.cell1 (show Rd 1 (some ⟨b1, 0, none⟩) (mkS [ca, cb]).size ((mkS [ca, cb]).data.toList.map byte) w' from hs.get 0 rfl) (by rw [hdm, List.getElem?_map, hy]; rfl), ?_⟩
        refine call_pu (fun β w' hs => indexD_c w' y) ?_
        unfold digV
        cases hdy : digA y with
        | none =>
          refine ⟨(), ⟨rfl, hbad ?_⟩, Ent.mk' trivial rfl (fun β w hs => ((hs.keepB (List.sublist_cons_self _ _)).perm []).lower)⟩
          rcases hyb with ⟨_, q, _⟩ | ⟨_, q, _⟩
          · exact .inl (by rw [← q]; exact hdy)
          · exact .inr (by rw [← q]; exact hdy)
        | some v =>
          have hv := digA_lt hdy
          have hN16 : N < 16 := by
            rcases hyb with ⟨_, _, q⟩ | ⟨_, _, q⟩
            · omega
            · exact digA_lt q
          refine ⟨by first | decide | omega, ((N * 16 : Nat) : Int), ?_, ?_⟩
          · rw [show min (4 : Int).toNat IntKind.i64.bits = 4 from rfl, wrap_i64 (by omega) (by omega)]; omega
          refine ⟨((N * 16 + v : Nat) : Int), or4_i64 (by omega) hv, ?_⟩
          refine ⟨((j + 1 : Nat) : Int), by rw [wrap_i64 (by omega) (by omega)]; rfl, ?_⟩
          refine ⟨(j + 1, N * 16 + v), ?_, by show 2 - (j + 1) < 2 - j; omega, Ent.same ⟨rfl, rfl, rfl, rfl, rfl, rfl, rfl, trivial⟩ rfl⟩
          rcases hyb with ⟨q1, q2, q3⟩ | ⟨q1, q2, q3⟩
          · exact .inr (.inl ⟨by show j + 1 = 1; omega, by show digA ca = some (N * 16 + v); rw [← q2, hdy, q3, Nat.zero_mul, Nat.zero_add]⟩)
          · exact .inr (.inr ⟨by show j + 1 = 2; omega, N, v, q3, by rw [← q2]; exact hdy, rfl⟩)
      · have hge0 : ¬ (j : Int) < ((mkS [ca, cb]).size : Int) := hge
        obtain ⟨x, y, hx1, hy1, hN⟩ : ∃ x y, digA ca = some x ∧ digA cb = some y ∧ N = x * 16 + y := by
          rcases hj with ⟨h1, h2⟩ | ⟨h1, h2⟩ | ⟨h1, h⟩
          · omega
          · omega
          · exact h
        have hN8 : N < 256 := by
          have h1 := digA_lt hx1
          have h2 := digA_lt hy1
          omega
        refine ⟨((u8n N).toNat : Int), wrap_u8n _, ?_⟩
        intro b3
        obtain ⟨l2, hl2⟩ : ∃ l2, l2 = out ++ [u8n N] := ⟨_, rfl⟩
        have hl2l : out.length + 1 = l2.length := by rw [hl2, List.length_append]; rfl
        have hpl : pre.length < L.length := by
          rcases Nat.lt_or_ge pre.length L.length with h | h
          · exact h
          · rw [List.getElem?_eq_none h] at hx; cases hx
        refine ⟨2, out.length, l2.length, _, [u8n N].map byte, l2.map byte, rfl, fun β w' hs => row_rd (hs.get 0 rfl), bytes_one _, hl2l, by rw [hl2, List.map_append], by rw [maxLen_eq]; omega, by show l2.length * 1 ≤ _; omega, ?_⟩
        intro A2 c2 r1 r2 r3
        refine ⟨(l2, A2, c2), ⟨?_, ?_, ?_⟩, Ent.mk' trivial rfl (fun β w' hs => hs.perm [2])⟩
        · show pre ++ [mkS [ca, cb]] = L.take (pre ++ [mkS [ca, cb]]).length
          rw [List.length_append, List.length_singleton, List.take_add_one, hx, ← hpre]
          rfl
        · show unhexA ((pre ++ [mkS [ca, cb]]).map (·.data.toList)).flatten = some l2
          rw [List.map_append, List.map_singleton, hdm, List.flatten_append, unhexA_app _ _ (by rw [hpf, List.length_take]; omega), hun0, hl2]
          simp [unhexA, hx1, hy1, hN]
        · show l2.length ≤ (pre ++ [mkS [ca, cb]]).length
          rw [List.length_append, List.length_singleton]
          omega
    · rintro xs ⟨out, A, c⟩ Fs ⟨hpre, hun, hlen⟩ ⟨rfl, rfl⟩
      have hfl : (xs.map (·.data.toList)).flatten = s0 := by
        rw [← hLd, List.map_map, show ((fun b : ByteArray => b.data.toList) ∘ mkS) = id from funext fun l => by simp [mkS], List.map_id, pieces_flat 1 _ _ (Nat.le_refl _)]
      rw [hfl] at hun
      intro β w' hs
      have hcap : out.length ≤ c := brow_cap (show (browF ty_uint8 A out c).p w' from hs.get 0 rfl)
      exact (hs.keepB (List.nil_sublist _)).fin [0] ⟨A, out, c, 0, rfl, .inl ⟨rfl, hun⟩, hcap, rfl⟩
    · rintro e pre ⟨⟩ Fs ⟨rfl, hno⟩ rfl
      intro β w' hs
      exact ((hs.keepB (List.nil_sublist _)).nilRow ty_uint8 1).fin [0] ⟨none, [], 0, 5, rfl, .inr ⟨by decide, hno⟩, Nat.le_refl _, rfl⟩
  · have h00 : ¬ (((mkS s0).size % 2 : Nat) : Int) = 0 := h0
    intro β w' hs
    exact ((hs.keepB (List.nil_sublist _)).nilRow ty_uint8 1).fin [0] ⟨none, [], 0, 2, rfl, .inr ⟨by decide, unhexA_odd s0 (by omega)⟩, Nat.le_refl _, rfl⟩
def isIf : Option TypeDesc → Bool
  | some (.interface _) => true
  | _ => false
theorem eqIn_nil {P : Program} {t : TypeId} (ht : isIf (P.underlying t) = true) (w : World) : (Op.equalIn Op.maxDepth t .nilIface .nilIface).run P w = .ok true w := by
  obtain ⟨ms, hm⟩ : ∃ ms, P.underlying t = some (.interface ms) := by
    unfold isIf at ht
    split at ht
    · rename_i ms h; exact ⟨ms, h⟩
    · cases ht
  rw [show Op.maxDepth = 9999 + 1 from rfl]
  unfold Op.equalIn
  simp [run_underlying hm]
theorem neq_nil {P : Program} {t : TypeId} (ht : isIf (P.underlying t) = true) (x : Operand) (w : World) : (binSem .neq t x (.const .nilIface) .nilIface .nilIface).run P w = .ok (.bool false) w := by
  simp [binSem, eqGuard, binOp, Op.equal, eqIn_nil ht]
theorem eql_nil {P : Program} {t : TypeId} (ht : isIf (P.underlying t) = true) (x : Operand) (w : World) : (binSem .eql t x (.const .nilIface) .nilIface .nilIface).run P w = .ok (.bool true) w := by
  simp [binSem, eqGuard, binOp, Op.equal, eqIn_nil ht]
theorem parseI_c (w : World) (t : ByteArray) (u : Nat) (ht : t.size ≤ 1000000) (h : Lib.parseUintB 64 t.data.toList = .ok u) : Pu Tryz.prog n_internal_strconv_ParseUint #[.string t, .int .i64 10, .int .i64 64] w (.tuple #[.int .u64 (u : Int), .nilIface]) := by
  refine pu_of (Calls.mono (Tryz.internal_strconv_ParseUint_10_at64 t (by omega) w) ?_)
  rintro e w' ⟨rfl, hw⟩
  refine ⟨_, rfl, by rw [h]; rfl, ?_⟩
  rcases hw with rfl | rfl
  · exact Chg.refl _ _
  · exact ⟨rfl, rfl, rfl, by rw [Lib.bytesWorld_size]; omega, fun k hk _ => Lib.bytesWorld_at_old w _ t k hk⟩
theorem parseU_c (w : World) (t : ByteArray) (u : Nat) (ht : t.size ≤ 1000000) (h : Lib.parseUintB 64 t.data.toList = .ok u) : Pu Tryz.prog n_strconv_ParseUint #[.string t, .int .i64 10, .int .i64 64] w (.tuple #[.int .u64 (u : Int), .nilIface]) := by
  have g := good_strconv_ParseUint w (Un [])
  refine con_of_sx (cx := cx_strconv_ParseUint w (Un [])) g b_strconv_ParseUint rfl rfl (β := Va.z) [.c (.v (.string t)), .c (.v (.int .i64 10)), .c (.v (.int .i64 64))] 0 [] [] rfl rfl (Sat.start rfl) ?_
  refine call_pu (v := .tuple #[.int .u64 (u : Int), .nilIface]) (fun β w' hs => parseI_c w' t u ht h) ?_
  refine ⟨false, fun w => neq_nil (by kernel_rfl) _ _, ?_⟩
  intro β w' hs
  exact hs.fin [] ⟨rfl, rfl⟩
def passA (s : ByteArray) : ByteArray × Int := (mkS (sizF s.data.toList 64).1, (sizF s.data.toList 64).2)
theorem pass_c (w : World) (s : ByteArray) (hl : s.size ≤ 100000) (hn : NamT w) : Pu Tryz.prog n_name_Password #[.string s] w (.tuple #[.string (passA s).1, .int .i64 (passA s).2]) := by
  have g := good_name_Password w (Un [])
  refine con_of_sx (cx := cx_name_Password w (Un [])) g b_name_Password rfl rfl (β := Va.z) [.c (.v (.string s))] 0 [] [oldF w] rfl rfl (old_sat rfl) ?_
  refine call_pu (fun β w' hs => sized_c w' s 64 (by decide) hl (NamT.sat hs 0 rfl hn).f (NamT.sat hs 0 rfl hn).s5 (NamT.sat hs 0 rfl hn).s6 (NamT.sat hs 0 rfl hn).s4) ?_
  intro β w' hs
  exact hs.fin [] ⟨rfl, rfl⟩
theorem siz_len (l : List UInt8) (k : Nat) : (sizF l k).1.length ≤ k := by
  unfold sizF
  split
  · split
    · exact Nat.zero_le _
    · split
      · exact Nat.zero_le _
      · rename_i h; exact Nat.le_of_not_lt h
  · exact Nat.zero_le _
theorem mkS_size (l : List UInt8) : (mkS l).size = l.length := by simp [mkS, ByteArray.size]
theorem nameA_len (s : ByteArray) : (nameA s).1.size ≤ 32 := by rw [nameA, mkS_size]; exact siz_len _ 32
theorem passA_len (s : ByteArray) : (passA s).1.size ≤ 64 := by rw [passA, mkS_size]; exact siz_len _ 64
theorem saltedN_iff {n : Nat} {it : Int} : saltedN n it = decide (0 < n ∧ n ≤ 32 ∧ 0 < it ∧ it ≤ 64) := by
  unfold saltedN
  rw [Bool.eq_iff_iff]
  simp only [Bool.and_eq_true, decide_eq_true_eq]
  omega
theorem salted_ok {n : Nat} {it : Int} (h : saltedN n it = true) : 1 ≤ it ∧ it ≤ 64 ∧ n ≤ 32 := by
  rw [saltedN_iff] at h
  have := of_decide_eq_true h
  omega
def clientK : List UInt8 := [67, 108, 105, 101, 110, 116, 32, 75, 101, 121]
def serverK : List UInt8 := [83, 101, 114, 118, 101, 114, 32, 75, 101, 121]
def mkErr (tenant user pass : ByteArray) (n : Nat) (it : Int) : Int :=
  if plainF tenant.data.toList = false then 5 else if ¬ (nameA user).2 = 0 then (nameA user).2 else if ¬ (passA pass).2 = 0 then (passA pass).2 else if saltedN n it = false then 1 else 0
noncomputable def mk1 (B : Bx.Box) (p salt : List UInt8) (it : Nat) : List UInt8 × Bx.Box := strB B p salt it
noncomputable def mk2 (B : Bx.Box) (p salt : List UInt8) (it : Nat) : List UInt8 × Bx.Box := macB (mk1 B p salt it).2 (mk1 B p salt it).1 clientK
noncomputable def mk3 (B : Bx.Box) (p salt : List UInt8) (it : Nat) : List UInt8 × Bx.Box := hashB (mk2 B p salt it).2 (mk2 B p salt it).1
noncomputable def mk4 (B : Bx.Box) (p salt : List UInt8) (it : Nat) : List UInt8 × Bx.Box := macB (mk3 B p salt it).2 (mk1 B p salt it).1 serverK
noncomputable def mk5 (B : Bx.Box) (p salt : List UInt8) (it : Nat) (t : List UInt8) : List UInt8 × Bx.Box := hashB (mk4 B p salt it).2 t
structure MkG (B : Bx.Box) (p salt : List UInt8) (it : Nat) (t : List UInt8) : Prop where
  g1 : GoodT B (mk1 B p salt it)
  g2 : GoodT (mk1 B p salt it).2 (mk2 B p salt it)
  g3 : GoodT (mk2 B p salt it).2 (mk3 B p salt it)
  g4 : GoodT (mk3 B p salt it).2 (mk4 B p salt it)
  g5 : GoodT (mk4 B p salt it).2 (mk5 B p salt it t)
theorem mk_good {B : Bx.Box} (hi : BInv B) (hl : B.L.length < 4000) {p salt t : List UInt8} {it : Nat} (hp : p.length ≤ 1000000) (hs : salt.length ≤ 1000000) (ht : t.length ≤ 1000000) (hit : it ≤ 64) : MkG B p salt it t := by
  have g1 : GoodT B (mk1 B p salt it) := str_good hi (by omega) hp hs hit
  have l1 := g1.1.len
  have k1 := g1.2.1
  have g2 : GoodT (mk1 B p salt it).2 (mk2 B p salt it) := mac_good g1.1.inv (by omega) (by omega) (by decide)
  have l2 := g2.1.len
  have k2 := g2.2.1
  have g3 : GoodT (mk2 B p salt it).2 (mk3 B p salt it) := hash_good g2.1.inv (by omega) (by omega)
  have l3 := g3.1.len
  have g4 : GoodT (mk3 B p salt it).2 (mk4 B p salt it) := mac_good g3.1.inv (by omega) (by omega) (by decide)
  have l4 := g4.1.len
  exact ⟨g1, g2, g3, g4, hash_good g4.1.inv (by omega) ht⟩
theorem MkG.ext {B : Bx.Box} {p salt t : List UInt8} {it : Nat} (h : MkG B p salt it t) : (mk5 B p salt it t).2.L.length ≤ B.L.length + 5 ∧ BInv (mk5 B p salt it t).2 ∧ (mk5 B p salt it t).2.sym = B.sym := by
  have l1 := h.g1.1.len
  have l2 := h.g2.1.len
  have l3 := h.g3.1.len
  have l4 := h.g4.1.len
  have l5 := h.g5.1.len
  exact ⟨by omega, h.g5.1.inv, by rw [h.g5.1.sym, h.g4.1.sym, h.g3.1.sym, h.g2.1.sym, h.g1.1.sym]⟩
def colonS : ByteArray := ⟨#[58]⟩
def haT (u tenant p : ByteArray) : ByteArray := u ++ colonS ++ tenant ++ colonS ++ p
theorem haT_size (u tenant p : ByteArray) : (haT u tenant p).size = u.size + tenant.size + p.size + 2 := by
  have : colonS.size = 1 := rfl
  simp only [haT, ByteArray.size_append, this]
  omega
def noSec : Value := .agg #[.slice none 0 0, .int .i64 0, .slice none 0 0, .slice none 0 0, .slice none 0 0]
def madeSec (F : Bx.Box → Lay → Fact) (B : Bx.Box) (tenant user pass : ByteArray) (salt : List UInt8) (it : Int) (v : Value) (Fs : List Fact) : Prop :=
  ∃ A0 c0 A1 c1 A2 c2 A3 c3 y',
    v = .tuple #[(SecA.mk A0 A1 A2 A3 c0 c1 c2 c3 salt (mk3 B (passA pass).1.data.toList salt it.toNat).1 (mk4 B (passA pass).1.data.toList salt it.toNat).1 (mk5 B (passA pass).1.data.toList salt it.toNat (haT (nameA user).1 tenant (passA pass).1).data.toList).1 it).val, .int .i64 0] ∧
    y'.ts.map (·.1) = (mk5 B (passA pass).1.data.toList salt it.toNat (haT (nameA user).1 tenant (passA pass).1).data.toList).2.L ∧
    Fs = [browF ty_uint8 A3 (mk5 B (passA pass).1.data.toList salt it.toNat (haT (nameA user).1 tenant (passA pass).1).data.toList).1 c3, browF ty_uint8 A2 (mk4 B (passA pass).1.data.toList salt it.toNat).1 c2, browF ty_uint8 A1 (mk3 B (passA pass).1.data.toList salt it.toNat).1 c1, browF ty_uint8 A0 salt c0, F (mk5 B (passA pass).1.data.toList salt it.toNat (haT (nameA user).1 tenant (passA pass).1).data.toList).2 y']
def makeOut (F : Bx.Box → Lay → Fact) (B : Bx.Box) (y : Lay) (tenant user pass : ByteArray) (salt : List UInt8) (it : Int) (v : Value) (Fs : List Fact) : Prop :=
  if mkErr tenant user pass salt.length it = 0 then madeSec F B tenant user pass salt it v Fs
  else v = .tuple #[noSec, .int .i64 (mkErr tenant user pass salt.length it)] ∧ Fs = [F B y]
theorem makeOut_no {F : Bx.Box → Lay → Fact} {B : Bx.Box} {y : Lay} {tenant user pass : ByteArray} {salt : List UInt8} {it e : Int} (h : mkErr tenant user pass salt.length it = e) (h0 : ¬ e = 0) : makeOut F B y tenant user pass salt it (.tuple #[noSec, .int .i64 e]) [F B y] := by
  unfold makeOut
  rw [h, if_neg h0]
  exact ⟨rfl, rfl⟩
set_option maxHeartbeats 2000000 in
theorem make_c (w : World) (b : Nat) (B : Bx.Box) (y : Lay) (tenant user pass : ByteArray) (S : Option Addr) (salt : List UInt8) (cS : Nat) (it : Int) (hts : y.ts.map (·.1) = B.L) (hi : BInv B) (hL : B.L.length < 4000) (ht : tenant.size ≤ 100000) (hu : user.size ≤ 100000) (hp : pass.size ≤ 100000) (hsl : salt.length ≤ 100000)
    (hm : Mem w [bxF b B y, bsF S salt, oddF 5, firstF 2, namF]) :
    Con Tryz.prog n_cred_Make #[ptrB b, .string tenant, .string user, .string pass, .slice S salt.length cS, .int .i64 it] w [bxF b B y] (makeOut (bxF b) B y tenant user pass salt it) := by
  have g := good_cred_Make w (Un [bxF b B y])
  have hml := maxLen_eq
  have hs0 : Sat (cx_cred_Make w (Un [bxF b B y])) Va.z 0 [] [bxF b B y, bsF S salt, oddF 5, firstF 2, namF] w := hm.sat0 rfl (ownIn (Gs := [bxF b B y]) (fun f hf => by
    simp only [List.mem_cons, List.not_mem_nil, or_false] at hf
    rcases hf with rfl | rfl | rfl | rfl <;> rfl))
  refine con_of_sx (cx := cx_cred_Make w (Un [bxF b B y])) g b_cred_Make rfl rfl (β := Va.z) [.c (.v (ptrB b)), .c (.v (.string tenant)), .c (.v (.string user)), .c (.v (.string pass)), .c (.v (.slice S salt.length cS)), .c (.v (.int .i64 it))] 0 [] _ rfl rfl hs0 ?_
  have bad : ∀ {e : Int}, mkErr tenant user pass salt.length it = e → ¬ e = 0 → ∀ {n : Nat} {H : List Bk} (β : Va) (w' : World), Sat (cx_cred_Make w (Un [bxF b B y])) β n H [bxF b B y, bsF S salt, oddF 5, firstF 2, namF] w' → Fin w [bxF b B y] (makeOut (bxF b) B y tenant user pass salt it) (.tuple #[noSec, .int .i64 e]) w' := by
    intro e h h0 n H β w' hs
    exact (hs.keepB (List.nil_sublist _)).fin [0] (makeOut_no h h0)
  obtain ⟨b1, hb1⟩ : ∃ b1, plainF tenant.data.toList = b1 := ⟨_, rfl⟩
  refine call_pu (v := .bool b1) (fun β w' hs => by rw [← hb1]; exact plain_c w' tenant ht) ?_
  cases b1 with
  | false => exact fun β w' hs => bad (by unfold mkErr; rw [if_pos hb1]) (by decide) β w' hs
  | true =>
  obtain ⟨un, ue, hun⟩ : ∃ un ue, nameA user = (un, ue) := ⟨_, _, rfl⟩
  have hul := nameA_len user
  rw [hun] at hul
  simp only at hul
  refine call_pu (v := .tuple #[.string un, .int .i64 ue]) (fun β w' hs => by
    have h := nameA_c w' user hu (namF_T (hs.get 4 rfl))
    rw [hun] at h
    exact h) ?_
  refine BIf.not (BIf.dec (fun h1 => ?_) (fun h1 => ?_))
  rotate_left
  · exact fun β w' hs => bad (by unfold mkErr; rw [if_neg (by rw [hb1]; decide), hun, if_pos h1]) h1 β w' hs
  obtain rfl : ue = 0 := h1
  obtain ⟨pn, pe, hpn⟩ : ∃ pn pe, passA pass = (pn, pe) := ⟨_, _, rfl⟩
  have hpl := passA_len pass
  rw [hpn] at hpl
  simp only at hpl
  refine call_pu (v := .tuple #[.string pn, .int .i64 pe]) (fun β w' hs => by
    have h := pass_c w' pass hp (namF_T (hs.get 4 rfl))
    rw [hpn] at h
    exact h) ?_
  refine BIf.not (BIf.dec (fun h2 => ?_) (fun h2 => ?_))
  rotate_left
  · exact fun β w' hs => bad (by unfold mkErr; rw [if_neg (by rw [hb1]; decide), hun, if_neg (by simp), hpn, if_pos h2]) h2 β w' hs
  obtain rfl : pe = 0 := h2
  obtain ⟨b2, hb2⟩ : ∃ b2, saltedN salt.length it = b2 := ⟨_, rfl⟩
  refine call_pu (v := .bool b2) (fun β w' hs => by rw [← hb2]; exact csalted_c w' S salt.length cS it) ?_
  cases b2 with
  | false => exact fun β w' hs => bad (by unfold mkErr; rw [if_neg (by rw [hb1]; decide), hun, if_neg (by simp), hpn, if_neg (by simp), if_pos hb2]) (by decide) β w' hs
  | true =>
  obtain ⟨hit1, hit2, hs32⟩ := salted_ok hb2
  have hout : makeOut (bxF b) B y tenant user pass salt it = madeSec (bxF b) B tenant user pass salt it := by
    funext v Fs
    unfold makeOut
    rw [if_pos (by unfold mkErr; rw [if_neg (by rw [hb1]; decide), hun, if_neg (by simp), hpn, if_neg (by simp), if_neg (by rw [hb2]; decide)])]
  rw [hout]
  unfold madeSec
  rw [hun, hpn]
  simp only
  clear hout bad
  have hpl2 : pn.data.toList.length ≤ 64 := hpl
  have hht := haT_size un tenant pn
  have ht32 : tenant.size ≤ 32 := by
    unfold plainF at hb1
    simp only [Bool.and_eq_true, decide_eq_true_eq] at hb1
    exact hb1.2.2
  have hG := mk_good hi hL (p := pn.data.toList) (salt := salt) (it := it.toNat) (t := (haT un tenant pn).data.toList) (by omega) (by omega) (by show (haT un tenant pn).size ≤ _; omega) (by omega)
  intro bp cp hcp _
  refine call_con [1] (R := strL (bxF b) (mk1 B pn.data.toList salt it.toNat)) (fun β w' hs => strL_c w' b B y (some ⟨bp, 0, none⟩) S pn.data.toList salt cp cS it ⟨hit1, hit2⟩ hts hi (by omega) (by omega) (by omega) ((hs.unown 0 rfl).mem.take (js := [1, 0, 2, 3, 4]) rfl)) ?_
  rintro v Fs ⟨A1, c1, y1, rfl, q1, q2, hts1, rfl⟩
  have l1 := hG.g1.1.len
  have k1 := hG.g1.2.1
  intro bc
  refine ⟨0, _, rfl, ?_⟩
  intro br
  refine call_con [3] (R := outL (bxF b) (mk2 B pn.data.toList salt it.toNat)) (fun β w' hs => by
    have h2 := ((hs.rowRd 0 rfl).ro 2 rfl).part1 (l := clientK) [0, 1] rfl
    exact macL_c w' b _ y1 A1 _ c1 br _ clientK 10 hts1 hG.g1.1.inv (by omega) (by omega) (by decide) (h2.mem.take (js := [4, 0, 3, 7, 8]) rfl)) ?_
  rintro v Fs ⟨A2, c2, y2, rfl, q3, q4, hts2, rfl⟩
  have l2 := hG.g2.1.len
  have k2 := hG.g2.2.1
  refine call_con [] (fun β w' hs => clone_c w' S salt cS (hs.get 6 rfl) (by omega)) ?_
  rintro v Fs ⟨A0, c0, rfl, q5, q6, rfl⟩
  intro br2
  refine call_con [3] (R := outL (bxF b) (mk3 B pn.data.toList salt it.toNat)) (fun β w' hs => by
    have h2 := ((hs.rowRd 0 rfl).ro 2 rfl).part1 (l := (mk2 B pn.data.toList salt it.toNat).1) [0, 2] rfl
    exact hashL_c w' b _ y2 br2 A2 _ c2 hts2 hG.g2.1.inv (by omega) (by omega) (h2.mem.take (js := [4, 0, 10, 11]) rfl)) ?_
  rintro v Fs ⟨A3, c3, y3, rfl, q7, q8, hts3, rfl⟩
  have l3 := hG.g3.1.len
  have k3 := hG.g3.2.1
  intro bs
  refine ⟨0, _, rfl, ?_⟩
  intro br3
  refine call_con [3] (R := outL (bxF b) (mk4 B pn.data.toList salt it.toNat)) (fun β w' hs => by
    have h2 := ((hs.rowRd 0 rfl).ro 9 rfl).part1 (l := serverK) [0, 1] rfl
    exact macL_c w' b _ y3 A1 _ c1 br3 _ serverK 10 hts3 hG.g3.1.inv (by omega) (by omega) (by decide) (h2.mem.take (js := [4, 0, 10, 13, 14]) rfl)) ?_
  rintro v Fs ⟨A4, c4, y4, rfl, q9, q10, hts4, rfl⟩
  have l4 := hG.g4.1.len
  have k4 := hG.g4.2.1
  have hcs : colonS.size = 1 := rfl
  refine ⟨by show un.size + 1 ≤ maxLen; omega, by show (un ++ colonS).size + tenant.size ≤ maxLen; rw [ByteArray.size_append]; omega, by show (un ++ colonS ++ tenant).size + 1 ≤ maxLen; rw [ByteArray.size_append, ByteArray.size_append]; omega, by show (un ++ colonS ++ tenant ++ colonS).size + pn.size ≤ maxLen; rw [ByteArray.size_append, ByteArray.size_append, ByteArray.size_append]; omega, ?_⟩
  intro bh ch hch _
  intro br4
  refine call_con [3] (R := outL (bxF b) (mk5 B pn.data.toList salt it.toNat (haT un tenant pn).data.toList)) (fun β w' hs => by
    have h2 := ((hs.rowRd 0 rfl).unown 1 rfl).part1 (l := (haT un tenant pn).data.toList) [0, 1] rfl
    exact hashL_c w' b _ y4 br4 (some ⟨bh, 0, none⟩) (haT un tenant pn).data.toList ch hts4 hG.g4.1.inv (by omega) (by show (haT un tenant pn).size ≤ _; omega) (h2.mem.take (js := [4, 0, 16, 17]) rfl)) ?_
  rintro v Fs ⟨A5, c5, y5, rfl, q11, q12, hts5, rfl⟩
  intro β w' hs
  exact (hs.keepB (List.nil_sublist _)).fin [0, 4, 7, 9, 1] ⟨A0, c0, A3, c3, A4, c4, A5, c5, y5, rfl, hts5, rfl⟩ rfl rfl rfl ⟨rfl, rfl, rfl, rfl, rfl, trivial⟩
theorem num4_c (w : World) : Pu Tryz.prog n_order_number #[.string (mkS [52])] w (.tuple #[.int .u64 4, .bool true]) := by
  have g := good_order_number w (Un [])
  refine con_of_sx (cx := cx_order_number w (Un [])) g b_order_number rfl rfl (β := Va.z) [.c (.v (.string (mkS [52])))] 0 [] [] rfl rfl (Sat.start rfl) ?_
  refine call_pu (v := .tuple #[.int .u64 ((4 : Nat) : Int), .nilIface]) (fun β w' hs => parseU_c w' (mkS [52]) 4 (by decide) (by decide)) ?_
  refine ⟨true, fun w => eql_nil (by kernel_rfl) _ _, ?_⟩
  refine call_pu (v := .string (mkS [52])) (fun β w' hs => by
    have h := fmtU_c w' 4 (by decide)
    have e : decimS 4 = mkS [52] := by decide +kernel
    rw [e] at h
    exact h) ?_
  intro β w' hs
  exact hs.fin [] ⟨rfl, rfl⟩
def annO : List UInt8 := [97, 110, 110]
def penO : List UInt8 := [112, 101, 110, 99, 105, 108]
def exA : List (List UInt8) := [[116], annO, penO, [48, 49, 48, 50], [52]]
set_option maxHeartbeats 1000000 in
theorem secEx_c (w : World) (h b us : Nat) (n g0 r t : Value) (B : Bx.Box) (y : Lay) (hts : y.ts.map (·.1) = B.L) (hi : BInv B) (hL : B.L.length < 4000) (A : Option Addr) (c : Nat) (hm : Mem w ([bxF b B y, hndF h b us n g0 r t] ++ [argF A exA, oddF 5, firstF 2, namF])) :
    Con Tryz.prog n_order_Hands_secret #[.pointer (some ⟨h, 0, none⟩), .slice A 5 c] w [bxF b B y, hndF h b us n g0 r t] fun v Fs => ∃ Fs', Fs = Fs' ++ [hndF h b us n g0 r t] ∧ madeSec (bxF b) B (mkS [116]) (mkS annO) (mkS penO) [1, 2] 4 v Fs' := by
  have g := good_order_Hands_secret w (Un [bxF b B y, hndF h b us n g0 r t])
  refine con_go (cx := cx_order_Hands_secret w (Un [bxF b B y, hndF h b us n g0 r t])) g b_order_Hands_secret [.c (.v (.pointer (some ⟨h, 0, none⟩))), .c (.v (.slice A 5 c))] [argF A exA, oddF 5, firstF 2, namF] hm ?_
  have hA : Rd 1 A 5 (tx exA) w := hm.fact (argF A exA) (by simp)
  obtain ⟨ad, rfl, _⟩ := hA.2 (by decide)
  have at_ : ∀ (k : Nat) (x : List UInt8), exA[k]? = some x → ∀ w', (argF (some ad) exA).p w' → w'.cell? (ad.add (k * 1)) = some (.string (mkS x)) := fun k x hk w' hw => Rd.cell1 (hw : Rd 1 (some ad) 5 (tx exA) w') (by unfold tx; rw [List.getElem?_map, hk]; rfl)
  refine ⟨_, 3, rfl, rfl, by omega, ?_⟩
  refine ⟨.string (mkS [48, 49, 48, 50]), fun β w' hs => at_ 3 _ rfl w' (hs.get 2 rfl), ?_⟩
  refine call_con [] (fun β w' hs => Unhex_c w' [48, 49, 48, 50] (by decide)) ?_
  rintro v Fs ⟨A1, l1, c1, e, rfl, he, hc1, rfl⟩
  have hu : unhexA [48, 49, 48, 50] = some [1, 2] := by decide +kernel
  rw [hu] at he
  rcases he with ⟨rfl, h0⟩ | ⟨_, h0⟩
  rotate_left
  · cases h0
  obtain rfl := Option.some.inj h0
  refine ⟨_, 4, rfl, rfl, by omega, ?_⟩
  refine ⟨.string (mkS [52]), fun β w' hs => at_ 4 _ rfl w' (hs.get 3 rfl), ?_⟩
  refine call_pu (fun β w' hs => num4_c w') ?_
  refine draw_rule g p_order_Hands_secret_5 (by kernel_rfl) [] [hndF h b us n g0 r t, argF (some ad) exA] (Sub.of (List.nil_sublist _) (((((List.nil_sublist _).cons_cons _).cons_cons _).cons _).cons _)) ?_
  refine ⟨.pointer (some ⟨b, 0, none⟩), fun β w' hs => cell_bk (hs.get 0 rfl) (o := 0) rfl, ?_⟩
  refine ⟨_, 0, rfl, rfl, by omega, ?_⟩
  refine ⟨.string (mkS [116]), fun β w' hs => at_ 0 _ rfl w' (hs.get 1 rfl), ?_⟩
  refine ⟨_, 1, rfl, rfl, by omega, ?_⟩
  refine ⟨.string (mkS annO), fun β w' hs => at_ 1 _ rfl w' (hs.get 1 rfl), ?_⟩
  refine ⟨_, 2, rfl, rfl, by omega, ?_⟩
  refine ⟨.string (mkS penO), fun β w' hs => at_ 2 _ rfl w' (hs.get 1 rfl), ?_⟩
  refine ⟨4, by show min (4 : Int) 1048576 = 4; decide, ?_⟩
  refine ⟨((4 : Nat) : Int), by rw [wrap_i64 (by omega) (by omega)]; rfl, ?_⟩
  have herr : mkErr (mkS [116]) (mkS annO) (mkS penO) ([1, 2] : List UInt8).length 4 = 0 := by decide +kernel
  refine call_con [1] (R := madeSec (bxF b) B (mkS [116]) (mkS annO) (mkS penO) [1, 2] 4) (fun β w' hs => (make_c w' b B y (mkS [116]) (mkS annO) (mkS penO) A1 [1, 2] c1 4 hts hi hL (by decide) (by decide) (by decide) (by decide) ((hs.ro 0 rfl).mem.take (js := [1, 0, 4, 5, 6]) rfl)).mono (fun v Fs h => by unfold makeOut at h; rw [if_pos herr] at h; exact h)) ?_
  rintro v Fs ⟨A5, c5, A6, c6, A7, c7, A8, c8, y2, rfl, hy2, rfl⟩
  generalize hq5 : mk5 B (passA (mkS penO)).1.data.toList [1, 2] (4 : Int).toNat (haT (nameA (mkS annO)).1 (mkS [116]) (passA (mkS penO)).1).data.toList = q5 at *
  generalize hq4 : mk4 B (passA (mkS penO)).1.data.toList [1, 2] (4 : Int).toNat = q4 at *
  generalize hq3 : mk3 B (passA (mkS penO)).1.data.toList [1, 2] (4 : Int).toNat = q3 at *
  refine ⟨Sub.of (List.nil_sublist _) (((((((((List.nil_sublist _).cons_cons _).cons_cons _).cons _).cons _).cons _).cons _).cons _).cons _), ?_⟩
  refine ⟨Sub.of (List.nil_sublist _) (((((((((List.nil_sublist _).cons_cons _).cons_cons _).cons _).cons _).cons _).cons _).cons _).cons _), ?_⟩
  intro β w' hs
  refine (hs.keepB (List.nil_sublist _)).fin [0, 1, 2, 3, 4, 6] ⟨[browF ty_uint8 A8 q5.1 c8, browF ty_uint8 A7 q4.1 c7, browF ty_uint8 A6 q3.1 c6, browF ty_uint8 A5 [1, 2] c5, bxF b q5.2 y2], rfl, A5, c5, A6, c6, A7, c7, A8, c8, y2, ?_, ?_, ?_⟩ rfl rfl rfl ⟨rfl, rfl, rfl, rfl, rfl, rfl, trivial⟩
  · rw [hq3, hq4, hq5]
    rfl
  · rw [hq5]
    exact hy2
  · rw [hq3, hq4, hq5]
def secX (A0 A1 A2 A3 : Option Addr) (c0 c1 c2 c3 : Nat) (a : ASec) : SecV := ⟨A0, a.salt.length, c0, a.iter, A1, a.stored.length, c1, A2, a.server.length, c2, A3, a.ha1.length, c3⟩
theorem Sat.secRows {cx : Cx} {β : Va} {n : Nat} {H : List Bk} {w : World} {F : List Fact} {A0 A1 A2 A3 : Option Addr} {c0 c1 c2 c3 : Nat} {a : ASec} (h : Sat cx β n H F w) (js : List Nat)
    (hj : takeIx F js = [browF ty_uint8 A3 a.ha1 c3, browF ty_uint8 A2 a.server c2, browF ty_uint8 A1 a.stored c1, browF ty_uint8 A0 a.salt c0]) (hn : nodupB js = true := by rfl) : Sat cx β n H (secF (secX A0 A1 A2 A3 c0 c1 c2 c3 a) a :: dropIx js 0 F) w := by
  refine h.fuse js (secF (secX A0 A1 A2 A3 c0 c1 c2 c3 a) a) (fun w hm => ?_) (fun k hk => ?_) hn (by rw [hj]; exact ⟨rfl, rfl, rfl, rfl, trivial⟩)
  · rw [hj] at hm
    exact ⟨rfl, rfl, rfl, rfl, rfl, row_rd (hm.fact (browF ty_uint8 A0 a.salt c0) (by simp)), row_rd (hm.fact (browF ty_uint8 A1 a.stored c1) (by simp)), row_rd (hm.fact (browF ty_uint8 A2 a.server c2) (by simp)), row_rd (hm.fact (browF ty_uint8 A3 a.ha1 c3) (by simp))⟩
  · rw [hj]
    obtain ⟨f, hf, hk⟩ := hk
    simp only [secX, List.mem_cons, List.not_mem_nil, or_false] at hf
    rcases hf with rfl | rfl | rfl | rfl
    all_goals
      obtain ⟨_, ad, q, rfl⟩ := hk
      subst q
    · exact ⟨browF ty_uint8 (some ad) a.salt c0, by simp, rfl⟩
    · exact ⟨browF ty_uint8 (some ad) a.stored c1, by simp, rfl⟩
    · exact ⟨browF ty_uint8 (some ad) a.server c2, by simp, rfl⟩
    · exact ⟨browF ty_uint8 (some ad) a.ha1 c3, by simp, rfl⟩
theorem nameA_ann : nameA (mkS annO) = (mkS annO, 0) := by
  have e : sizF annO 32 = (annO, 0) := by decide +kernel
  show (mkS (sizF annO 32).1, (sizF annO 32).2) = _
  rw [e]
theorem addT_ex : addT (sto0 0 0).a (mkS [116]) = (0, ⟨[(mkS [116], [])], 0, 0⟩) := by
  have e : plainF (mkS [116]).data.toList = true := by decide +kernel
  unfold addT
  rw [e]
  rfl
theorem addU_ex {a : ASec} (hr : rightA a = true) : (addU (addT (sto0 0 0).a (mkS [116])).2 (mkS [116]) (mkS annO) a).1 = 0 := by
  rw [addT_ex]
  unfold addU
  rw [show aten (ASto.ts ⟨[(mkS [116], [])], 0, 0⟩) (mkS [116]) = some [] from if_pos rfl]
  simp only [nameA_ann, hr]
  rfl
set_option maxHeartbeats 1000000 in
theorem userEx_c (w : World) (h b : Nat) (S : Sto) (n g0 r t : Value) (B : Bx.Box) (y : Lay) (hts : y.ts.map (·.1) = B.L) (hi : BInv B) (hL : B.L.length < 4000) (hS : S.a = (addT (sto0 0 0).a (mkS [116])).2) (A : Option Addr) (c : Nat) (hm : Mem w ([bxF b B y, hndF h b S.b n g0 r t, stoF S] ++ [argF A exA, oddF 5, firstF 2, namF])) :
    Con Tryz.prog n_order_Hands_user #[.pointer (some ⟨h, 0, none⟩), cmdV usrAdd A 5 c] w [bxF b B y, hndF h b S.b n g0 r t, stoF S] fun v Fs => ∃ (S' : Sto) (a : ASec) (B' : Bx.Box) (y' : Lay), S'.a = (addU S.a (mkS [116]) (mkS annO) a).2 ∧ S'.b = S.b ∧ rightA a = true ∧ v = .tuple #[.string (mkS [111, 107]), .int .i64 0] ∧ Fs = [stoF S', hndF h b S.b n g0 r t, bxF b B' y'] := by
  have g := good_order_Hands_user w (Un [bxF b B y, hndF h b S.b n g0 r t, stoF S])
  refine con_go (cx := cx_order_Hands_user w (Un [bxF b B y, hndF h b S.b n g0 r t, stoF S])) g b_order_Hands_user [.c (.v (.pointer (some ⟨h, 0, none⟩))), .agg [.v (.string (mkS usrAdd)), .v (.slice A 5 c)]] [argF A exA, oddF 5, firstF 2, namF] hm ?_
  refine call_con [0, 1] (fun β w' hs => secEx_c w' h b S.b n g0 r t B y hts hi hL A c (hs.mem.take (js := [0, 1, 3, 4, 5, 6]) rfl)) ?_
  rintro v Fs ⟨Fs', rfl, A0, c0, A1, c1, A2, c2, A3, c3, y2, rfl, hy2, rfl⟩
  have hG := mk_good (B := B) hi hL (p := (passA (mkS penO)).1.data.toList) (salt := [1, 2]) (t := (haT (nameA (mkS annO)).1 (mkS [116]) (passA (mkS penO)).1).data.toList) (it := (4 : Int).toNat) (by decide +kernel) (by decide) (by decide +kernel) (by decide)
  have l3 := hG.g3.2.1
  have l4 := hG.g4.2.1
  have l5 := hG.g5.2.1
  clear hG hy2
  generalize mk5 B (passA (mkS penO)).1.data.toList [1, 2] (4 : Int).toNat (haT (nameA (mkS annO)).1 (mkS [116]) (passA (mkS penO)).1).data.toList = q5 at *
  generalize mk4 B (passA (mkS penO)).1.data.toList [1, 2] (4 : Int).toNat = q4 at *
  generalize mk3 B (passA (mkS penO)).1.data.toList [1, 2] (4 : Int).toNat = q3 at *
  obtain ⟨q5, B5⟩ := q5
  obtain ⟨q4, B4⟩ := q4
  obtain ⟨q3, B3⟩ := q3
  simp only at l3 l4 l5
  have hA : Rd 1 A 5 (tx exA) w := hm.fact (argF A exA) (by simp)
  obtain ⟨ad, rfl, _⟩ := hA.2 (by decide)
  have at_ : ∀ (k : Nat) (x : List UInt8), exA[k]? = some x → ∀ w', (argF (some ad) exA).p w' → w'.cell? (ad.add (k * 1)) = some (.string (mkS x)) := fun k x hk w' hw => Rd.cell1 (hw : Rd 1 (some ad) 5 (tx exA) w') (by unfold tx; rw [List.getElem?_map, hk]; rfl)
  refine draw_rule g p_order_Hands_user_5 (by kernel_rfl) [⟨1, ty_cred_Secret, [.v (.slice A0 2 c0), .v (.int .i64 4), .v (.slice A1 q3.length c1), .v (.slice A2 q4.length c2), .v (.slice A3 q5.length c3)]⟩, ⟨0, ty_order_Command, [.v (.string (mkS usrAdd)), .v (.slice (some ad) 5 c)]⟩] [hndF h b S.b n g0 r t, argF (some ad) exA] (Sub.of (List.Sublist.refl _) ((((((((List.nil_sublist _).cons_cons _).cons _).cons_cons _).cons _).cons _).cons _).cons _ |>.cons _)) ?_
  refine ⟨_, fun β w' hs => cell_bk (hs.get 0 rfl) (o := 1) rfl, ?_⟩
  refine ⟨_, 0, rfl, rfl, by omega, ?_⟩
  refine ⟨.string (mkS [116]), fun β w' hs => at_ 0 _ rfl w' (hs.get 1 rfl), ?_⟩
  refine ⟨_, 1, rfl, rfl, by omega, ?_⟩
  refine ⟨.string (mkS annO), fun β w' hs => at_ 1 _ rfl w' (hs.get 1 rfl), ?_⟩
  obtain ⟨a, ha⟩ : ∃ a : ASec, (⟨[1, 2], 4, q3, q4, q5⟩ : ASec) = a := ⟨_, rfl⟩
  have hr : rightA a = true := by
    rw [← ha]
    show (saltedA [1, 2] 4 && (decide (q3.length = 32) && (decide (q4.length = 32) && decide (q5.length = 32)))) = true
    rw [l3, l4, l5]
    decide
  have hz : ASz a := by
    rw [← ha]
    exact ⟨by show 2 ≤ 1000000; decide, by show q3.length ≤ _; omega, by show q4.length ≤ _; omega, by show q5.length ≤ _; omega⟩
  have h0 := addU_ex hr
  rw [← hS] at h0
  refine call_con [6] (fun β w' hs => add_c w' S (mkS [116]) (mkS annO) (secX A0 A1 A2 A3 c0 c1 c2 c3 ⟨[1, 2], 4, q3, q4, q5⟩) a (by decide) hz (by
    have h := (hs.secRows (a := ⟨[1, 2], 4, q3, q4, q5⟩) [0, 1, 2, 3] rfl).mem.take (js := [3, 0, 7]) rfl
    rw [ha] at h ⊢
    exact h)) ?_
  rintro v Fs ⟨S', rfl, hS1, hS2, rfl⟩
  rw [h0]
  refine ⟨subPerm [6, 7], ?_⟩
  refine call_pu (fun β w' hs => said_c w' 0) ?_
  refine ⟨subPerm [6, 7], ?_⟩
  intro β w' hs
  exact (hs.keepB (List.nil_sublist _)).fin [0, 6, 5] ⟨S', a, B5, y2, hS1, hS2, hr, rfl, rfl⟩ rfl rfl rfl ⟨rfl, rfl, rfl, trivial⟩
theorem joinE_c (w : World) (A : Option Addr) (c : Nat) (s : ByteArray) : Pu Tryz.prog n_strings_Join #[.slice A 0 c, .string s] w (.string (mkS [])) := by
  have g := good_strings_Join w (Un [])
  refine con_of_sx (cx := cx_strings_Join w (Un [])) g b_strings_Join rfl rfl (β := Va.z) [.c (.v (.slice A 0 c)), .c (.v (.string s))] 0 [] [] rfl rfl (Sat.start rfl) ?_
  intro β w' hs
  exact hs.fin [] ⟨rfl, rfl⟩
theorem dec1_c (w : World) : Pu Tryz.prog n_order_dec #[.int .u64 1] w (.string (mkS [49])) := by
  have g := good_order_dec w (Un [])
  refine con_of_sx (cx := cx_order_dec w (Un [])) g b_order_dec rfl rfl (β := Va.z) [.c (.v (.int .u64 1))] 0 [] [] rfl rfl (Sat.start rfl) ?_
  refine call_pu (v := .string (mkS [49])) (fun β w' hs => by
    have h := fmtU_c w' 1 (by decide)
    have e : decimS 1 = mkS [49] := by decide +kernel
    rw [e] at h
    exact h) ?_
  intro β w' hs
  exact hs.fin [] ⟨rfl, rfl⟩
theorem aone_ex {a : ASec} (hr : rightA a = true) : aone (addU (addT (sto0 0 0).a (mkS [116])).2 (mkS [116]) (mkS annO) a).2 (mkS [116]) (mkS annO) = some ⟨mkS [116], mkS annO, a, 1, [], false⟩ := by
  rw [addT_ex]
  unfold addU
  rw [show aten (ASto.ts ⟨[(mkS [116], [])], 0, 0⟩) (mkS [116]) = some [] from if_pos rfl]
  simp only [nameA_ann, hr]
  unfold aone
  rw [nameA_ann]
  rfl
theorem showEx_c (w : World) (h b : Nat) (S : Sto) (n g0 r t : Value) (a : ASec) (hr : rightA a = true) (hS : S.a = (addU (addT (sto0 0 0).a (mkS [116])).2 (mkS [116]) (mkS annO) a).2) (hm : Mem w ([stoF S, hndF h b S.b n g0 r t] ++ [namF])) :
    Con Tryz.prog n_order_Hands_show #[.pointer (some ⟨h, 0, none⟩), .string (mkS [116]), .string (mkS annO)] w [stoF S, hndF h b S.b n g0 r t] fun v Fs => v = .tuple #[.string (mkS [49, 32, 111, 110, 32, 45]), .int .i64 0] ∧ Fs = [] := by
  have g := good_order_Hands_show w (Un [stoF S, hndF h b S.b n g0 r t])
  have ho := aone_ex hr
  rw [← hS] at ho
  refine con_go (cx := cx_order_Hands_show w (Un [stoF S, hndF h b S.b n g0 r t])) g b_order_Hands_show [.c (.v (.pointer (some ⟨h, 0, none⟩))), .c (.v (.string (mkS [116]))), .c (.v (.string (mkS annO)))] [namF] hm ?_
  refine ⟨_, fun β w' hs => cell_bk (hs.get 1 rfl) (o := 1) rfl, ?_⟩
  have hz : ∀ x, aone S.a (mkS [116]) (mkS annO) = some x → CSz x := fun x hx => by
    rw [ho] at hx
    obtain rfl := Option.some.inj hx
    have hr2 := hr
    unfold rightA saltedA at hr2
    simp only [Bool.and_eq_true, decide_eq_true_eq] at hr2
    exact ⟨⟨by show a.salt.length ≤ _; omega, by show a.stored.length ≤ _; omega, by show a.server.length ≤ _; omega, by show a.ha1.length ≤ _; omega⟩, Nat.zero_le _⟩
  refine call_con [0] (R := fun v Fs => ∃ x : Crd, x.a = ⟨mkS [116], mkS annO, a, 1, [], false⟩ ∧ v = .tuple #[.agg x.vs.toArray, .bool true] ∧ Fs = crdRows x ++ [stoF (stoR S)]) (fun β w' hs => (find_c w' S (mkS [116]) (mkS annO) (by decide) hz (hs.mem.take (js := [0, 2]) rfl)).mono (fun v Fs h => by unfold findOut at h; rw [ho] at h; exact h)) ?_
  rintro v Fs ⟨⟨cb, tn, us, sc, gn, rA, rc, ro, rv⟩, hx, rfl, rfl⟩
  simp only [Crd.a, ACrd.mk.injEq] at hx
  obtain ⟨rfl, rfl, _, rfl, rfl, rfl⟩ := hx
  refine call_pu (fun β w' hs => joinE_c w' rA rc ⟨#[44]⟩) ?_
  refine call_pu (fun β w' hs => dec1_c w') ?_
  intro b1
  refine call_pu (v := .string (mkS [49, 32, 111, 110, 32, 45])) (fun β w' hs => by
    have h := join_c w' b1 3 [mkS [49], ⟨#[111, 110]⟩, ⟨#[45]⟩] ⟨#[32]⟩ (row_rd (hs.get 0 rfl)) (hs.getLt 0 rfl b1 rfl) (by show 3 ≤ 1000; decide) (Nat.le_refl 3) (by decide +kernel)
    have e : joinB [mkS [49], ⟨#[111, 110]⟩, ⟨#[45]⟩] ⟨#[32]⟩ = mkS [49, 32, 111, 110, 32, 45] := by decide +kernel
    rw [e] at h
    exact h) ?_
  intro β w' hs
  exact (hs.keepB (List.nil_sublist _)).fin [] ⟨rfl, rfl⟩
theorem Rd.cutN {size : Nat} {w : World} {A : Option Addr} {xs : List Value} {n : Nat} (h : Rd size A n xs w) {c i j : Nat} (hn : n ≤ c) (hij : i ≤ j) (hj : j ≤ n) : Rd size (cutA A c i size) (j - i) ((xs.drop (i * size)).take ((j - i) * size)) w := by
  have hl := h.1
  have hle : i * size + (j - i) * size ≤ n * size := by rw [← Nat.add_mul]; exact Nat.mul_le_mul_right _ (by omega)
  refine ⟨by rw [List.length_take, List.length_drop]; omega, fun hp => ?_⟩
  obtain ⟨ad, rfl, hc⟩ := h.2 (by omega)
  have hne : ¬ c = i := by omega
  refine ⟨ad.add (i * size), by simp [cutA, hne], fun k u hk => ?_⟩
  rw [add_add']
  refine hc (i * size + k) u ?_
  rw [← hk]
  have hkl : k < (j - i) * size := by
    have := (List.getElem?_eq_some_iff.1 hk).1
    rw [List.length_take] at this
    omega
  rw [List.getElem?_take, if_pos hkl, List.getElem?_drop]
theorem runTen_c (w : World) (h b : Nat) (S : Sto) (n g0 r t : Value) (x : List UInt8) (hx : x.length ≤ 100000) (A : Option Addr) (c : Nat) (now : Int) (hm : Mem w ([stoF S, hndF h b S.b n g0 r t] ++ [argF A [x], verbF 0])) :
    Con Tryz.prog n_order_Hands_Run #[.pointer (some ⟨h, 0, none⟩), cmdV tenAdd A 1 c, .int .u64 now] w [stoF S, hndF h b S.b n g0 r t] fun v Fs => ∃ S' : Sto, S'.a = (addT S.a (mkS x)).2 ∧ S'.b = S.b ∧ v = .tuple #[.string (if (addT S.a (mkS x)).1 = 0 then mkS [111, 107] else mkS []), .int .i64 (addT S.a (mkS x)).1] ∧ Fs = [stoF S', hndF h b S.b n g0 r t] := by
  have g := good_order_Hands_Run w (Un [stoF S, hndF h b S.b n g0 r t])
  refine con_go (cx := cx_order_Hands_Run w (Un [stoF S, hndF h b S.b n g0 r t])) g b_order_Hands_Run [.c (.v (.pointer (some ⟨h, 0, none⟩))), .agg [.v (.string (mkS tenAdd)), .v (.slice A 1 c)], .c (.v (.int .u64 now))] [argF A [x], verbF 0] hm ?_
  refine call_pu (v := .int .i64 0) (fun β w' hs => by
    have h := counted_c w' tenAdd A 1 c (hs.mem.take (js := [3]) rfl)
    have e : cntE tenAdd 1 = 0 := by decide +kernel
    rw [e] at h
    exact h) ?_
  refine call_con [0, 1] (fun β w' hs => usersTen_c w' h b S n g0 r t x hx A c (hs.mem.take (js := [0, 1, 2]) rfl)) ?_
  rintro v Fs ⟨S', hS1, hS2, rfl, rfl⟩
  intro β w' hs
  exact (hs.keepB (List.nil_sublist _)).fin [0, 1] ⟨S', hS1, hS2, rfl, rfl⟩ rfl rfl rfl ⟨rfl, rfl, trivial⟩
theorem runUsr_c (w : World) (h b : Nat) (S : Sto) (n g0 r t : Value) (B : Bx.Box) (y : Lay) (hts : y.ts.map (·.1) = B.L) (hi : BInv B) (hL : B.L.length < 4000) (hS : S.a = (addT (sto0 0 0).a (mkS [116])).2) (A : Option Addr) (c : Nat) (now : Int) (hm : Mem w ([bxF b B y, hndF h b S.b n g0 r t, stoF S] ++ [argF A exA, oddF 5, firstF 2, namF, verbF 0])) :
    Con Tryz.prog n_order_Hands_Run #[.pointer (some ⟨h, 0, none⟩), cmdV usrAdd A 5 c, .int .u64 now] w [bxF b B y, hndF h b S.b n g0 r t, stoF S] fun v Fs => ∃ (S' : Sto) (a : ASec) (B' : Bx.Box) (y' : Lay), S'.a = (addU S.a (mkS [116]) (mkS annO) a).2 ∧ S'.b = S.b ∧ rightA a = true ∧ v = .tuple #[.string (mkS [111, 107]), .int .i64 0] ∧ Fs = [stoF S', hndF h b S.b n g0 r t, bxF b B' y'] := by
  have g := good_order_Hands_Run w (Un [bxF b B y, hndF h b S.b n g0 r t, stoF S])
  refine con_go (cx := cx_order_Hands_Run w (Un [bxF b B y, hndF h b S.b n g0 r t, stoF S])) g b_order_Hands_Run [.c (.v (.pointer (some ⟨h, 0, none⟩))), .agg [.v (.string (mkS usrAdd)), .v (.slice A 5 c)], .c (.v (.int .u64 now))] [argF A exA, oddF 5, firstF 2, namF, verbF 0] hm ?_
  refine call_pu (v := .int .i64 0) (fun β w' hs => by
    have h := counted_c w' usrAdd A 5 c (hs.mem.take (js := [7]) rfl)
    have e : cntE usrAdd 5 = 0 := by decide +kernel
    rw [e] at h
    exact h) ?_
  refine call_con [] (fun β w' hs => usersNo_c w' (.pointer (some ⟨h, 0, none⟩)) usrAdd (.inl rfl) A exA (by decide) c (hs.mem.take (js := [3]) rfl)) ?_
  rintro v Fs ⟨rfl, rfl⟩
  refine call_con [0, 1, 2] (hown := ⟨rfl, rfl, rfl, trivial⟩) (fun β w' hs => userEx_c w' h b S n g0 r t B y hts hi hL hS A c (hs.mem.take (js := [0, 1, 2, 3, 4, 5, 6]) rfl)) ?_
  rintro v Fs ⟨S', a, B', y', hS1, hS2, hr, rfl, rfl⟩
  intro β w' hs
  exact (hs.keepB (List.nil_sublist _)).fin [0, 1, 2] ⟨S', a, B', y', hS1, hS2, hr, rfl, rfl⟩ rfl rfl rfl ⟨rfl, rfl, rfl, trivial⟩
set_option maxRecDepth 100000 in
theorem runShw_c (w : World) (h b : Nat) (S : Sto) (n g0 r t : Value) (a : ASec) (hr : rightA a = true) (hS : S.a = (addU (addT (sto0 0 0).a (mkS [116])).2 (mkS [116]) (mkS annO) a).2) (A : Option Addr) (c : Nat) (now : Int) (hm : Mem w ([stoF S, hndF h b S.b n g0 r t] ++ [argF A [[116], annO], namF, verbF 0])) :
    Con Tryz.prog n_order_Hands_Run #[.pointer (some ⟨h, 0, none⟩), cmdV shwUsr A 2 c, .int .u64 now] w [stoF S, hndF h b S.b n g0 r t] fun v Fs => v = .tuple #[.string (mkS [49, 32, 111, 110, 32, 45]), .int .i64 0] ∧ Fs = [] := by
  have g := good_order_Hands_Run w (Un [stoF S, hndF h b S.b n g0 r t])
  refine con_go (cx := cx_order_Hands_Run w (Un [stoF S, hndF h b S.b n g0 r t])) g b_order_Hands_Run [.c (.v (.pointer (some ⟨h, 0, none⟩))), .agg [.v (.string (mkS shwUsr)), .v (.slice A 2 c)], .c (.v (.int .u64 now))] [argF A [[116], annO], namF, verbF 0] hm ?_
  refine call_pu (v := .int .i64 0) (fun β w' hs => by
    have h := counted_c w' shwUsr A 2 c (hs.mem.take (js := [4]) rfl)
    have e : cntE shwUsr 2 = 0 := by decide +kernel
    rw [e] at h
    exact h) ?_
  refine call_con [] (fun β w' hs => usersNo_c w' (.pointer (some ⟨h, 0, none⟩)) shwUsr (.inr rfl) A [[116], annO] (by decide) c (hs.mem.take (js := [2]) rfl)) ?_
  rintro v Fs ⟨rfl, rfl⟩
  have hA : Rd 1 A 2 (tx [[116], annO]) w := hm.fact (argF A [[116], annO]) (by simp)
  obtain ⟨ad, rfl, _⟩ := hA.2 (by decide)
  have at_ : ∀ (k : Nat) (x : List UInt8), [[116], annO][k]? = some x → ∀ w', (argF (some ad) [[116], annO]).p w' → w'.cell? (ad.add (k * 1)) = some (.string (mkS x)) := fun k x hk w' hw => Rd.cell1 (hw : Rd 1 (some ad) 2 (tx [[116], annO]) w') (by unfold tx; rw [List.getElem?_map, hk]; rfl)
  refine draw_rule g p_order_Hands_Run_29 (by kernel_rfl) [⟨0, ty_order_Command, [.v (.string (mkS shwUsr)), .v (.slice (some ad) 2 c)]⟩] [argF (some ad) [[116], annO]] (Sub.of (List.Sublist.refl _) ((((List.nil_sublist _).cons_cons _).cons _).cons _)) ?_
  refine ⟨_, 0, rfl, rfl, by omega, ?_⟩
  refine ⟨.string (mkS [116]), fun β w' hs => at_ 0 _ rfl w' (hs.get 0 rfl), ?_⟩
  refine ⟨_, 1, rfl, rfl, by omega, ?_⟩
  refine ⟨.string (mkS annO), fun β w' hs => at_ 1 _ rfl w' (hs.get 0 rfl), ?_⟩
  refine call_con [0, 1] (fun β w' hs => showEx_c w' h b S n g0 r t a hr hS (hs.mem.take (js := [0, 1, 3]) rfl)) ?_
  rintro v Fs ⟨rfl, rfl⟩
  refine ⟨subPerm [0], ?_⟩
  intro β w' hs
  exact (hs.keepB (List.nil_sublist _)).fin [] ⟨rfl, rfl⟩ rfl rfl rfl ⟨⟩
theorem Sat.argCut {cx : Cx} {β : Va} {n : Nat} {H : List Bk} {F : List Fact} {w : World} {A0 : Option Addr} {c0 : Nat} {v0 : List UInt8} {a : List (List UInt8)} (h : Sat cx β n H (txF A0 (v0 :: a) c0 :: F) w) (hc : a.length + 1 ≤ c0) : Sat cx β n H (argF (cutA A0 c0 1 1) a :: F) w := by
  have hp : (txF A0 (v0 :: a) c0).p w := h.get 0 rfl
  have h1 := Rd.cutN (row_rd hp) (c := c0) (i := 1) (j := (v0 :: a).length) hc (by simp) (Nat.le_refl _)
  have h2 : Rd 1 (cutA A0 c0 1 1) a.length (tx a) w := by
    have h3 : ((tx (v0 :: a)).drop (1 * 1)).take (((v0 :: a).length - 1) * 1) = tx a := by
      rw [List.take_of_length_le (by simp [tx])]
      rfl
    rw [h3] at h1
    exact h1
  refine h.upd (j := 0) (f := txF A0 (v0 :: a) c0) rfl rfl (Chg.refl _ _) (show (argF (cutA A0 c0 1 1) a).p w from h2) (fun b hb => .inl (rowD hp b ?_))
  obtain ⟨h0, ad, q, rfl⟩ := hb
  refine ⟨by simp, ?_⟩
  obtain ⟨ad0, rfl, _⟩ := (row_rd hp).2 (by simp)
  refine ⟨ad0, rfl, ?_⟩
  have hne : ¬ c0 = 1 := by simp at h0; omega
  simp [cutA, hne] at q
  rw [← q]
  rfl
theorem parse_at (w : World) (s v0 : List UInt8) (a : List (List UInt8)) (hs : s.length ≤ 4096) (hw : wordsF s = (v0 :: a, true)) (he : cntE v0 a.length = 0) (hm : Mem w [verbF 0]) : Con Tryz.prog n_order_Parse #[.string (mkS s)] w [] fun v Fs => ∃ A0 c0, v = .tuple #[.agg #[.string (mkS v0), .slice (cutA A0 c0 1 1) a.length (c0 - 1)], .int .i64 0] ∧ a.length + 1 ≤ c0 ∧ Fs = [txF A0 (v0 :: a) c0] :=
  (parse_c w s (by omega) hm).mono (by
    intro v Fs h
    have hp : parF s = (v0, a, 0) := by
      unfold parF
      rw [if_neg (by omega), hw]
      exact if_pos he
    rcases h with ⟨A0, c0, v1, a1, _, hw1, _, _, rfl, hc, rfl⟩ | ⟨e, h1, h2, _⟩
    · rw [hw] at hw1
      cases hw1
      exact ⟨A0, c0, rfl, hc, rfl⟩
    · rw [hp] at h1
      cases h1
      exact absurd rfl h2)
def lnTen : List UInt8 := tenAdd ++ [32, 116]
theorem doTen_c (w : World) (h b : Nat) (S : Sto) (n g0 r t : Value) (hm : Mem w ([stoF S, hndF h b S.b n g0 r t] ++ [verbF 0])) :
    Con Tryz.prog n_order_Hands_Do #[.pointer (some ⟨h, 0, none⟩), .string (mkS lnTen), .int .u64 1] w [stoF S, hndF h b S.b n g0 r t] fun v Fs => ∃ S' : Sto, S'.a = (addT S.a (mkS [116])).2 ∧ S'.b = S.b ∧ v = .tuple #[.string (if (addT S.a (mkS [116])).1 = 0 then mkS [111, 107] else mkS []), .int .i64 (addT S.a (mkS [116])).1] ∧ Fs = [stoF S', hndF h b S.b n g0 r t] := by
  have g := good_order_Hands_Do w (Un [stoF S, hndF h b S.b n g0 r t])
  refine con_go (cx := cx_order_Hands_Do w (Un [stoF S, hndF h b S.b n g0 r t])) g b_order_Hands_Do [.c (.v (.pointer (some ⟨h, 0, none⟩))), .c (.v (.string (mkS lnTen))), .c (.v (.int .u64 1))] [verbF 0] hm ?_
  refine call_conS [] (fun β w' hs => parse_at w' lnTen tenAdd [[116]] (by decide) (by decide +kernel) (by decide +kernel) (hs.mem.take (js := [2]) rfl)) ?_
  rintro v Fs ⟨A0, c0, rfl, hc, rfl⟩
  refine ⟨_, _, fun β w' hs => hs.argCut hc, ?_⟩
  refine call_con [1, 2] (fun β w' hs => runTen_c w' h b S n g0 r t [116] (by decide) (cutA A0 c0 1 1) (c0 - 1) 1 (hs.mem.take (js := [1, 2, 0, 3]) rfl)) ?_
  rintro v Fs ⟨S', hS1, hS2, rfl, rfl⟩
  intro β w' hs
  exact (hs.keepB (List.nil_sublist _)).fin [0, 1] ⟨S', hS1, hS2, rfl, rfl⟩ rfl rfl rfl ⟨rfl, rfl, trivial⟩
def lnUsr : List UInt8 := [117, 115, 101, 114, 45, 97, 100, 100, 32, 116, 32, 97, 110, 110, 32, 34, 112, 101, 110, 99, 105, 108, 34, 32, 48, 49, 48, 50, 32, 52]
def lnShw : List UInt8 := [115, 104, 111, 119, 45, 117, 115, 101, 114, 32, 116, 32, 97, 110, 110]
theorem doUsr_c (w : World) (h b : Nat) (S : Sto) (n g0 r t : Value) (B : Bx.Box) (y : Lay) (hts : y.ts.map (·.1) = B.L) (hi : BInv B) (hL : B.L.length < 4000) (hS : S.a = (addT (sto0 0 0).a (mkS [116])).2) (hm : Mem w ([bxF b B y, hndF h b S.b n g0 r t, stoF S] ++ [oddF 5, firstF 2, namF, verbF 0])) :
    Con Tryz.prog n_order_Hands_Do #[.pointer (some ⟨h, 0, none⟩), .string (mkS lnUsr), .int .u64 1] w [bxF b B y, hndF h b S.b n g0 r t, stoF S] fun v Fs => ∃ (S' : Sto) (a : ASec) (B' : Bx.Box) (y' : Lay), S'.a = (addU S.a (mkS [116]) (mkS annO) a).2 ∧ S'.b = S.b ∧ rightA a = true ∧ v = .tuple #[.string (mkS [111, 107]), .int .i64 0] ∧ Fs = [stoF S', hndF h b S.b n g0 r t, bxF b B' y'] := by
  have g := good_order_Hands_Do w (Un [bxF b B y, hndF h b S.b n g0 r t, stoF S])
  refine con_go (cx := cx_order_Hands_Do w (Un [bxF b B y, hndF h b S.b n g0 r t, stoF S])) g b_order_Hands_Do [.c (.v (.pointer (some ⟨h, 0, none⟩))), .c (.v (.string (mkS lnUsr))), .c (.v (.int .u64 1))] [oddF 5, firstF 2, namF, verbF 0] hm ?_
  refine call_conS [] (fun β w' hs => parse_at w' lnUsr usrAdd exA (by decide) (by decide +kernel) (by decide +kernel) (hs.mem.take (js := [6]) rfl)) ?_
  rintro v Fs ⟨A0, c0, rfl, hc, rfl⟩
  refine ⟨_, _, fun β w' hs => hs.argCut hc, ?_⟩
  refine call_con [1, 2, 3] (hown := ⟨rfl, rfl, rfl, trivial⟩) (fun β w' hs => runUsr_c w' h b S n g0 r t B y hts hi hL hS (cutA A0 c0 1 1) (c0 - 1) 1 (hs.mem.take (js := [1, 2, 3, 0, 4, 5, 6, 7]) rfl)) ?_
  rintro v Fs ⟨S', a, B', y', hS1, hS2, hr, rfl, rfl⟩
  intro β w' hs
  exact (hs.keepB (List.nil_sublist _)).fin [0, 1, 2] ⟨S', a, B', y', hS1, hS2, hr, rfl, rfl⟩ rfl rfl rfl ⟨rfl, rfl, rfl, trivial⟩
theorem doShw_c (w : World) (h b : Nat) (S : Sto) (n g0 r t : Value) (a : ASec) (hr : rightA a = true) (hS : S.a = (addU (addT (sto0 0 0).a (mkS [116])).2 (mkS [116]) (mkS annO) a).2) (hm : Mem w ([stoF S, hndF h b S.b n g0 r t] ++ [namF, verbF 0])) :
    Con Tryz.prog n_order_Hands_Do #[.pointer (some ⟨h, 0, none⟩), .string (mkS lnShw), .int .u64 1] w [stoF S, hndF h b S.b n g0 r t] fun v Fs => v = .tuple #[.string (mkS [49, 32, 111, 110, 32, 45]), .int .i64 0] ∧ Fs = [] := by
  have g := good_order_Hands_Do w (Un [stoF S, hndF h b S.b n g0 r t])
  refine con_go (cx := cx_order_Hands_Do w (Un [stoF S, hndF h b S.b n g0 r t])) g b_order_Hands_Do [.c (.v (.pointer (some ⟨h, 0, none⟩))), .c (.v (.string (mkS lnShw))), .c (.v (.int .u64 1))] [namF, verbF 0] hm ?_
  refine call_conS [] (fun β w' hs => parse_at w' lnShw shwUsr [[116], annO] (by decide) (by decide +kernel) (by decide +kernel) (hs.mem.take (js := [3]) rfl)) ?_
  rintro v Fs ⟨A0, c0, rfl, hc, rfl⟩
  refine ⟨_, _, fun β w' hs => hs.argCut hc, ?_⟩
  refine call_con [1, 2] (fun β w' hs => runShw_c w' h b S n g0 r t a hr hS (cutA A0 c0 1 1) (c0 - 1) 1 (hs.mem.take (js := [1, 2, 0, 3, 4]) rfl)) ?_
  rintro v Fs ⟨rfl, rfl⟩
  intro β w' hs
  exact (hs.keepB (List.nil_sublist _)).fin [] ⟨rfl, rfl⟩ rfl rfl rfl ⟨⟩
theorem awake24_c (w : World) (hm : Mem w [oddF 5, firstF 2, namF, verbF 0]) :
    Con Tryz.prog n_ostiarylaw24_awake #[] w [] fun v Fs => v = .bool true ∧ Fs = [] := by
  have g := good_ostiarylaw24_awake w (Un [])
  refine con_go (cx := cx_ostiarylaw24_awake w (Un [])) g b_ostiarylaw24_awake [] [oddF 5, firstF 2, namF, verbF 0] hm ?_
  refine call_con [] (fun β w' hs => hands24_c w' (hs.mem.take (js := [0, 1]) rfl)) ?_
  rintro v Fs ⟨h, b, S, n, g0, r, t, B, y, rfl, hSa, hts, hi, _, hBL, rfl⟩
  have e1 : addT S.a (mkS [116]) = (0, ⟨[(mkS [116], [])], 0, 0⟩) := by rw [hSa]; exact addT_ex
  refine call_con [2, 0] (fun β w' hs => doTen_c w' h b S n g0 r t (hs.mem.take (js := [2, 0, 6]) rfl)) ?_
  rintro v Fs ⟨S1, hS1, hB1, hv, hF⟩
  have hv1 : v = .tuple #[.string (mkS [111, 107]), .int .i64 0] := by rw [hv, e1]; rfl
  rw [← hB1] at hF
  subst hF hv1
  refine call_con [2, 1, 0] (hown := ⟨rfl, rfl, rfl, trivial⟩) (fun β w' hs => doUsr_c w' h b S1 n g0 r t B y hts hi (by omega) (by rw [hS1, hSa]) (hs.mem.take (js := [2, 1, 0, 3, 4, 5, 6]) rfl)) ?_
  rintro v Fs ⟨S2, a, B2, y2, hS2, hB2, hr, rfl, hF⟩
  rw [← hB2] at hF
  subst hF
  refine call_con [0, 1] (fun β w' hs => doShw_c w' h b S2 n g0 r t a hr (by rw [hS2, hS1, hSa]) (hs.mem.take (js := [0, 1, 5, 6]) rfl)) ?_
  rintro v Fs ⟨rfl, rfl⟩
  intro β w' hs
  exact (hs.keepB (List.nil_sublist _)).fin [] ⟨rfl, rfl⟩ rfl rfl rfl ⟨⟩
def cntR (v : List UInt8) : Int := match vbs.find? (fun q => q.1 == v) with
  | some q => q.2
  | none => -1
theorem eq_lit {v l : List UInt8} (h : mkS v = ⟨l.toArray⟩) : v = l := by
  have h := congrArg (fun s : ByteArray => s.data.toList) h
  simpa [mkS] using h
theorem refCount_c (w : World) (v : List UInt8) : Pu Tryz.prog n_ostiaryref24_Count #[.string (mkS v)] w (.int .i64 (cntR v)) := by
  have g := good_ostiaryref24_Count w (Un [])
  refine con_go (cx := cx_ostiaryref24_Count w (Un [])) g b_ostiaryref24_Count [.c (.v (.string (mkS v)))] [] ⟨fun _ q => (by cases q), fun _ q => (by cases q), List.Pairwise.nil⟩ ?_
  refine BIf.dec (fun he => ?_) (fun h0 => ?_)
  · have hv : v = [99, 111, 117, 110, 116] := eq_lit he
    subst hv
    intro β w' hs
    exact (hs.keepB (List.nil_sublist _)).fin [] ⟨congrArg (Value.int .i64) (by decide +kernel), rfl⟩
  refine BIf.dec (fun he => ?_) (fun h1 => ?_)
  · have hv : v = [107, 101, 121, 45, 114, 111, 116, 97, 116, 101] := eq_lit he
    subst hv
    intro β w' hs
    exact (hs.keepB (List.nil_sublist _)).fin [] ⟨congrArg (Value.int .i64) (by decide +kernel), rfl⟩
  refine BIf.dec (fun he => ?_) (fun h2 => ?_)
  · have hv : v = [115, 104, 111, 119, 45, 107, 101, 121, 115] := eq_lit he
    subst hv
    intro β w' hs
    exact (hs.keepB (List.nil_sublist _)).fin [] ⟨congrArg (Value.int .i64) (by decide +kernel), rfl⟩
  refine BIf.dec (fun he => ?_) (fun h3 => ?_)
  · have hv : v = [115, 104, 111, 119, 45, 112, 111, 108, 105, 99, 121] := eq_lit he
    subst hv
    intro β w' hs
    exact (hs.keepB (List.nil_sublist _)).fin [] ⟨congrArg (Value.int .i64) (by decide +kernel), rfl⟩
  refine BIf.dec (fun he => ?_) (fun h4 => ?_)
  · have hv : v = [115, 119, 101, 101, 112] := eq_lit he
    subst hv
    intro β w' hs
    exact (hs.keepB (List.nil_sublist _)).fin [] ⟨congrArg (Value.int .i64) (by decide +kernel), rfl⟩
  refine BIf.dec (fun he => ?_) (fun h5 => ?_)
  · have hv : v = [107, 101, 121, 45, 114, 101, 116, 105, 114, 101] := eq_lit he
    subst hv
    intro β w' hs
    exact (hs.keepB (List.nil_sublist _)).fin [] ⟨congrArg (Value.int .i64) (by decide +kernel), rfl⟩
  refine BIf.dec (fun he => ?_) (fun h6 => ?_)
  · have hv : v = [112, 111, 108, 105, 99, 121] := eq_lit he
    subst hv
    intro β w' hs
    exact (hs.keepB (List.nil_sublist _)).fin [] ⟨congrArg (Value.int .i64) (by decide +kernel), rfl⟩
  refine BIf.dec (fun he => ?_) (fun h7 => ?_)
  · have hv : v = [115, 111, 117, 114, 99, 101, 45, 99, 108, 101, 97, 114] := eq_lit he
    subst hv
    intro β w' hs
    exact (hs.keepB (List.nil_sublist _)).fin [] ⟨congrArg (Value.int .i64) (by decide +kernel), rfl⟩
  refine BIf.dec (fun he => ?_) (fun h8 => ?_)
  · have hv : v = [116, 101, 110, 97, 110, 116, 45, 97, 100, 100] := eq_lit he
    subst hv
    intro β w' hs
    exact (hs.keepB (List.nil_sublist _)).fin [] ⟨congrArg (Value.int .i64) (by decide +kernel), rfl⟩
  refine BIf.dec (fun he => ?_) (fun h9 => ?_)
  · have hv : v = [116, 101, 110, 97, 110, 116, 45, 100, 114, 111, 112] := eq_lit he
    subst hv
    intro β w' hs
    exact (hs.keepB (List.nil_sublist _)).fin [] ⟨congrArg (Value.int .i64) (by decide +kernel), rfl⟩
  refine BIf.dec (fun he => ?_) (fun h10 => ?_)
  · have hv : v = [116, 105, 99, 107, 101, 116, 45, 114, 101, 118, 111, 107, 101] := eq_lit he
    subst hv
    intro β w' hs
    exact (hs.keepB (List.nil_sublist _)).fin [] ⟨congrArg (Value.int .i64) (by decide +kernel), rfl⟩
  refine BIf.dec (fun he => ?_) (fun h11 => ?_)
  · have hv : v = [114, 101, 115, 116, 111, 114, 101] := eq_lit he
    subst hv
    intro β w' hs
    exact (hs.keepB (List.nil_sublist _)).fin [] ⟨congrArg (Value.int .i64) (by decide +kernel), rfl⟩
  refine BIf.dec (fun he => ?_) (fun h12 => ?_)
  · have hv : v = [114, 101, 118, 111, 107, 101] := eq_lit he
    subst hv
    intro β w' hs
    exact (hs.keepB (List.nil_sublist _)).fin [] ⟨congrArg (Value.int .i64) (by decide +kernel), rfl⟩
  refine BIf.dec (fun he => ?_) (fun h13 => ?_)
  · have hv : v = [115, 104, 111, 119, 45, 117, 115, 101, 114] := eq_lit he
    subst hv
    intro β w' hs
    exact (hs.keepB (List.nil_sublist _)).fin [] ⟨congrArg (Value.int .i64) (by decide +kernel), rfl⟩
  refine BIf.dec (fun he => ?_) (fun h14 => ?_)
  · have hv : v = [117, 115, 101, 114, 45, 100, 114, 111, 112] := eq_lit he
    subst hv
    intro β w' hs
    exact (hs.keepB (List.nil_sublist _)).fin [] ⟨congrArg (Value.int .i64) (by decide +kernel), rfl⟩
  refine BIf.dec (fun he => ?_) (fun h15 => ?_)
  · have hv : v = [103, 114, 97, 110, 116] := eq_lit he
    subst hv
    intro β w' hs
    exact (hs.keepB (List.nil_sublist _)).fin [] ⟨congrArg (Value.int .i64) (by decide +kernel), rfl⟩
  refine BIf.dec (fun he => ?_) (fun h16 => ?_)
  · have hv : v = [117, 110, 103, 114, 97, 110, 116] := eq_lit he
    subst hv
    intro β w' hs
    exact (hs.keepB (List.nil_sublist _)).fin [] ⟨congrArg (Value.int .i64) (by decide +kernel), rfl⟩
  refine BIf.dec (fun he => ?_) (fun h17 => ?_)
  · have hv : v = [117, 115, 101, 114, 45, 97, 100, 100] := eq_lit he
    subst hv
    intro β w' hs
    exact (hs.keepB (List.nil_sublist _)).fin [] ⟨congrArg (Value.int .i64) (by decide +kernel), rfl⟩
  refine BIf.dec (fun he => ?_) (fun h18 => ?_)
  · have hv : v = [117, 115, 101, 114, 45, 112, 97, 115, 115] := eq_lit he
    subst hv
    intro β w' hs
    exact (hs.keepB (List.nil_sublist _)).fin [] ⟨congrArg (Value.int .i64) (by decide +kernel), rfl⟩
  have e : cntR v = -1 := by
    unfold cntR
    rw [List.find?_eq_none.2 (fun y hy hq => ?_)]
    have hq : y.1 = v := by simpa using hq
    simp only [vbs, List.mem_cons, List.not_mem_nil, or_false] at hy
    rcases hy with rfl | rfl | rfl | rfl | rfl | rfl | rfl | rfl | rfl | rfl | rfl | rfl | rfl | rfl | rfl | rfl | rfl | rfl | rfl
    · exact h0 (by rw [← hq]; rfl)
    · exact h15 (by rw [← hq]; rfl)
    · exact h5 (by rw [← hq]; rfl)
    · exact h1 (by rw [← hq]; rfl)
    · exact h6 (by rw [← hq]; rfl)
    · exact h11 (by rw [← hq]; rfl)
    · exact h12 (by rw [← hq]; rfl)
    · exact h2 (by rw [← hq]; rfl)
    · exact h3 (by rw [← hq]; rfl)
    · exact h13 (by rw [← hq]; rfl)
    · exact h7 (by rw [← hq]; rfl)
    · exact h4 (by rw [← hq]; rfl)
    · exact h8 (by rw [← hq]; rfl)
    · exact h9 (by rw [← hq]; rfl)
    · exact h10 (by rw [← hq]; rfl)
    · exact h16 (by rw [← hq]; rfl)
    · exact h17 (by rw [← hq]; rfl)
    · exact h14 (by rw [← hq]; rfl)
    · exact h18 (by rw [← hq]; rfl)
  intro β w' hs
  exact (hs.keepB (List.nil_sublist _)).fin [] ⟨congrArg (Value.int .i64) e.symm, rfl⟩
theorem cutTextO_c (w : World) (s : ByteArray) (k : Nat) (_hk : k ≤ 1000000) : Pu Tryz.prog n_ostiaryref01_CutText #[.string s, .int .i64 k] w (.string (mkS (s.data.toList.take k))) := by
  refine pu_of (calls_of_sx (cx := cx_ostiaryref01_CutText w None_) (good_ostiaryref01_CutText w None_) b_ostiaryref01_CutText rfl rfl (β := Va.z) [.c (.v (.string s)), .c (.v (.int .i64 k))] 0 [] [] rfl rfl (Sat.start rfl) ?_)
  refine ⟨((min s.size k : Nat) : Int), by dsimp only; omega, ?_⟩
  refine ⟨min s.size k, 0, rfl, rfl, by omega, Nat.zero_le _, ?_⟩
  intro β w' hs
  refine ⟨?_, hs.chg⟩
  have e : s.data.toList.take k = s.data.toList.take (min s.size k) := by
    rw [List.take_eq_take_min, show s.data.toList.length = s.size from rfl, Nat.min_comm]
  rw [e, ← mkS_take, mkS_of]
  rfl
theorem rCounted_c (w : World) (v : List UInt8) (A : Option Addr) (n c : Nat) : Pu Tryz.prog n_ostiaryref24_counted #[.agg #[.string (mkS v), .slice A n c]] w (.int .i64 (cntE v n)) := by
  have g := good_ostiaryref24_counted w (Un [])
  refine con_go (cx := cx_ostiaryref24_counted w (Un [])) g b_ostiaryref24_counted [.agg [.v (.string (mkS v)), .v (.slice A n c)]] [] ⟨fun _ q => (by cases q), fun _ q => (by cases q), List.Pairwise.nil⟩ ?_
  refine call_pu (fun β w' hs => refCount_c w' v) ?_
  cases hf : vbs.find? (fun q => q.1 == v) with
  | none =>
    have e1 : cntR v = -1 := by unfold cntR; rw [hf]
    have e2 : cntE v n = 6 := by unfold cntE; rw [hf]
    rw [e1, e2]
    intro β w' hs
    exact (hs.keepB (List.nil_sublist _)).fin [] ⟨rfl, rfl⟩
  | some q =>
    have e1 : cntR v = (q.2 : Int) := by unfold cntR; rw [hf]
    have e2 : cntE v n = if q.2 = n then 0 else 1 := by unfold cntE; rw [hf]
    rw [e1, e2]
    refine BIf.not (BIf.dec (fun he => ?_) (fun he => ?_))
    · have h0 : q.2 = n := by have h : (q.2 : Int) = n := he; omega
      rw [if_pos h0]
      intro β w' hs
      exact (hs.keepB (List.nil_sublist _)).fin [] ⟨rfl, rfl⟩
    · have h0 : ¬ q.2 = n := fun h => he (by show (q.2 : Int) = n; omega)
      rw [if_neg h0]
      intro β w' hs
      exact (hs.keepB (List.nil_sublist _)).fin [] ⟨rfl, rfl⟩
theorem wl_step {a us : List (List UInt8)} {u x : List UInt8} {k : Nat} (hlt : k < a.length) (hx : a[k]? = some x) (hq : wrtL a = (wrtL (a.drop k)).map (us ++ ·)) (he : wrtS x = some u) : wrtL a = (wrtL (a.drop (k + 1))).map ((us ++ [u]) ++ ·) := by
  rw [hq, drop_at hlt hx, wrtL, he]
  cases wrtL (a.drop (k + 1)) <;> simp
theorem wl_bad {a us : List (List UInt8)} {x : List UInt8} {k : Nat} (hlt : k < a.length) (hx : a[k]? = some x) (hq : wrtL a = (wrtL (a.drop k)).map (us ++ ·)) (he : wrtS x = none) : wrtL a = none := by
  rw [hq, drop_at hlt hx, wrtL, he]
  rfl
theorem catW_snoc (us : List (List UInt8)) (u : List UInt8) : catW (us ++ [u]) = catW us ++ 32 :: u := by simp [catW]
def texV (q : List UInt8 × Int) : Value := .tuple #[.string (mkS q.1), .int .i64 q.2]
theorem refText_c (w : World) (v : List UInt8) (A : Option Addr) (a : List (List UInt8)) (c : Nat) (hv : v.length ≤ 100000) (ha : a.length ≤ 1000) (hal : ∀ x ∈ a, x.length ≤ 100000) (hm : Mem w [argF A a]) :
    Pu Tryz.prog n_ostiaryref24_Text #[.agg #[.string (mkS v), .slice A a.length c]] w (texV (texF v a)) := by
  have g := good_ostiaryref24_Text w (Un [])
  have hml := maxLen_eq
  refine con_go (cx := cx_ostiaryref24_Text w (Un [])) g b_ostiaryref24_Text [.agg [.v (.string (mkS v)), .v (.slice A a.length c)]] [argF A a] hm ?_
  refine call_pu (fun β w' hs => rCounted_c w' v A a.length c) ?_
  obtain ⟨e, he⟩ : ∃ e, cntE v a.length = e := ⟨_, rfl⟩
  rw [he]
  refine BIf.not (BIf.dec (fun h0 => ?_) (fun h0 => ?_))
  rotate_left
  · have h0 : ¬ e = 0 := h0
    intro β w' hs
    exact (hs.keepB (List.nil_sublist _)).fin [] ⟨by rw [texF_bad (by rw [he]; exact h0), he]; rfl, rfl⟩
  have h0 : e = 0 := h0
  subst h0
  refine loop_rule 1 (fun j : Nat × List (List UInt8) => [(18, .c (.v (.slice A a.length c))), (19, .c (.v (.int .i64 (a.length : Int)))), (20, .c (.v (.int .i64 (j.1 : Int)))), (5, .c (.v (.string (mkS (v ++ catW j.2)))))]) (fun _ => []) (fun _ => [argF A a])
    (fun j => j.1 ≤ a.length ∧ wrtL a = (wrtL (a.drop j.1)).map (j.2 ++ ·) ∧ (v ++ catW j.2).length ≤ 100000 + j.1 * 200003) (fun j => a.length - j.1) (0, []) ⟨Nat.zero_le _, by cases h : wrtL a <;> simp [h], by simp [catW]; omega⟩ (Ent.mk' ⟨rfl, rfl, rfl, congrArg (fun s => some (SV.c (SL.v (Value.string (mkS s))))) (List.append_nil v).symm, trivial⟩ rfl (fun β w' hs => hs.keepB (List.nil_sublist _) |>.perm [0])) g ?_
  rintro ⟨k, us⟩ ⟨hk, hq, hn⟩
  simp only at hk hq hn
  refine BIf.dec (fun hlt => ?_) (fun hge => ?_)
  · have hlt : k < a.length := by have h0 : (k : Int) < (a.length : Int) := hlt; omega
    obtain ⟨x, hx, hxm⟩ := at_lt (l := a) (k := k) hlt
    have hxl := hal x hxm
    obtain ⟨ad, rfl⟩ : ∃ ad, A = some ad := by
      obtain ⟨ad, h, _⟩ := (hm.fact _ List.mem_cons_self : Rd 1 A a.length (tx a) w).2 (by omega)
      exact ⟨ad, h⟩
    refine ⟨ad, k, rfl, rfl, hlt, .string (mkS x), fun β w' hs => Rd.cell1 (hs.get 0 rfl) (by simp [tx, hx]), ?_⟩
    refine call_pu (fun β w' hs => refWord_c w' x hxl) ?_
    cases hw : wrtS x with
    | none =>
      intro β w' hs
      exact (hs.keepB (List.nil_sublist _)).fin [] ⟨by rw [texF_none he (wl_bad hlt hx hq hw)]; rfl, rfl⟩
    | some u =>
      have hul := wrtS_len hw
      refine ⟨by rw [mkS_len]; show 1 + u.length ≤ maxLen; omega, ?_⟩
      rw [show (⟨#[32]⟩ : ByteArray) ++ mkS u = mkS (32 :: u) from mkS_app [32] u]
      refine ⟨by show (mkS (v ++ catW us)).size + (mkS (32 :: u)).size ≤ maxLen; rw [mkS_len, mkS_len, List.length_cons]; omega, ?_⟩
      rw [mkS_app, List.append_assoc, ← catW_snoc]
      have hn2 : (v ++ catW (us ++ [u])).length ≤ 100000 + (k + 1) * 200003 := by
        rw [catW_snoc, ← List.append_assoc, List.length_append, List.length_cons]
        omega
      refine ⟨(((k + 1) : Nat) : Int), by rw [wrap_i64 (by first | omega | (dsimp only; omega)) (by first | omega | (dsimp only; omega))]; rfl, ?_⟩
      exact ⟨(k + 1, us ++ [u]), ⟨hlt, wl_step hlt hx hq hw, hn2⟩, by show a.length - (k + 1) < a.length - k; omega, Ent.same ⟨rfl, rfl, rfl, rfl, trivial⟩ rfl⟩
  · have e : k = a.length := by have h0 : ¬ (k : Int) < (a.length : Int) := hge; omega
    rw [e, List.drop_length] at hq
    have hq : wrtL a = some us := by rw [hq]; simp [wrtL]
    refine BIf.dec (fun hg => ?_) (fun hg => ?_)
    · have hg : 4096 < (v ++ catW us).length := by have h : (4096 : Int) < (mkS (v ++ catW us)).size := hg; rw [mkS_len] at h; omega
      intro β w' hs
      exact (hs.keepB (List.nil_sublist _)).fin [] ⟨by rw [texF_some he hq, if_pos hg]; rfl, rfl⟩
    · have hg : ¬ 4096 < (v ++ catW us).length := fun q => hg (by show (4096 : Int) < (mkS (v ++ catW us)).size; rw [mkS_len]; omega)
      intro β w' hs
      exact (hs.keepB (List.nil_sublist _)).fin [] ⟨by rw [texF_some he hq, if_neg hg]; rfl, rfl⟩
end Go.Proofs.YteenjgfbbkdlhaaGreatDoor.Sx

namespace Go.Proofs.YteenjgfbbkdlhaaGreatDoor.Sx
open Go
section
variable {cx : Cx} {β : Va} {n : Nat} {env : Env} {H : List Bk} {F : List Fact} {a : Act} {w w' : World}
end
end Go.Proofs.YteenjgfbbkdlhaaGreatDoor.Sx

namespace Go.Proofs.YteenjgfbbkdlhaaGreatDoor.Sx
open Go
attribute [local irreducible] Calls
theorem drop_all {p : UInt8 → Bool} : ∀ {w : List UInt8}, w.dropWhile p = [] ↔ w.all p = true
  | [] => by simp
  | c :: r => by
    rw [List.dropWhile_cons, List.all_cons]
    cases hc : p c with
    | true => simp only [if_true, Bool.true_and]; exact drop_all
    | false => simp
theorem take_ne {p : UInt8 → Bool} {w : List UInt8} (h : w.all p = true) : w.takeWhile p = w := by
  have := @tw_all p w [] h (fun x r q => by cases q)
  rw [List.append_nil] at this
  exact this.1
structure WnS where
  A : Option Addr
  c : Nat
  k : Nat
  out : List UInt8
set_option maxHeartbeats 1000000 in
theorem written_c (w : World) (s : List UInt8) (hl : s.length ≤ 100000) : Pu Tryz.prog n_order_written #[.string (mkS s)] w (wrtV (wrtS s)) := by
  have g := good_order_written w (Un [])
  have hsz := mkS_len s
  have hml := maxLen_eq
  refine con_goT (cx := cx_order_written w (Un [])) g b_order_written [.c (.v (.string (mkS s)))] [] ⟨fun _ q => (by cases q), fun _ q => (by cases q), List.Pairwise.nil⟩ ?_
  refine tri_seq g ?_
  refine tri_seqJ (ι := Unit) g (fun _ => plnW s = false) 0 (fun _ => [(0, .c (.v (.string (mkS s))))]) (fun _ => []) (fun _ => []) ?_ ?_
  rotate_left
  · refine call_pu (fun β w' hs' => bareO_c w' s hl) ?_
    refine BIf.dec (fun h1 => ?_) (fun h1 => ?_)
    · refine BIf.dec (p := mkS (s.dropWhile plnC) = mkS []) (fun h2 => ?_) (fun h2 => ?_)
      · have ha := drop_all.1 (mkS_nil.1 h2)
        rw [take_ne ha] at h1
        intro β w' hs
        refine (hs.keepB (List.nil_sublist _)).fin [] ⟨?_, rfl⟩
        rw [wrtS_eq, plnW, ha, decide_eq_true h1]
        rfl
      · have ha : ¬ s.all plnC = true := fun q => h2 (mkS_nil.2 (drop_all.2 q))
        exact EntX.of () (by unfold plnW; rw [Bool.eq_false_iff.2 ha, Bool.and_false]) (Ent.same ⟨rfl, trivial⟩ rfl)
    · have ha : ¬ (s ≠ [] ∧ s.all plnC = true) := fun q => h1 (by rw [take_ne q.2]; exact q.1)
      exact EntX.of () (by unfold plnW; rw [Bool.eq_false_iff]; exact fun q => ha (by simpa using q)) (Ent.same ⟨rfl, trivial⟩ rfl)
  rintro ⟨⟩ hpw
  have hwr : wrtS s = (escS s).map fun e => 34 :: (e ++ [34]) := by rw [wrtS_eq, hpw, if_neg (by decide)]
  have no : escS s = none → ∀ {n : Nat} {H : List Bk} {F : List Fact} (β : Va) (w' : World), Sat (cx_order_written w (Un [])) β n H F w' → Fin w [] (fun u Fs => u = wrtV (wrtS s) ∧ Fs = []) (.tuple #[.string (mkS []), .bool false]) w' := by
    intro he n H F β w' hs
    rw [hwr, he]
    exact (hs.keepB (List.nil_sublist _)).fin [] ⟨rfl, rfl⟩
  refine tri_seq g ?_
  refine reify_tri 0 (fun _ => [.pointer none, .slice none 0 0]) rfl rfl (fun _ => rfl) (fun b => ?_)
  refine tri_sat (F' := bldF b (.pointer none) none [] 0) (fun β w hs => (hs.nilRow ty_uint8 1).perm [1, 0]) ?_
  refine tri_seq g ?_
  refine call_con [0, 1] (fun β w' hs => writeByte_c w' b (.pointer none) none [] 0 34 (.inl rfl) (by decide) (hs.mem.take (js := [0, 1]) rfl)) ?_
  rintro v Fs ⟨rfl, A1, c1, rfl⟩
  refine tri_seq g ?_
  intro b1
  intro b2
  intro q1
  intro q2
  refine loop_rule 1 (fun j : WnS => [(24, .c (.v (.slice (some ⟨b1, 0, none⟩) s.length b2))), (25, .c (.v (.int .i64 (s.length : Int)))), (26, .c (.v (.int .i64 (j.k : Int)))), (7, .c (.v (selfV b)))]) (fun _ => []) (fun j => rdoF 1 (some ⟨b1, 0, none⟩) s.length (s.map byte) :: bldF b (selfV b) j.A (34 :: j.out) j.c)
    (fun j => j.k ≤ s.length ∧ escS s = (escS (s.drop j.k)).map (j.out ++ ·) ∧ j.out.length ≤ 2 * j.k) (fun j => s.length - j.k) ⟨A1, c1, 0, []⟩ ⟨Nat.zero_le _, by cases h : escS s <;> simp [h], Nat.zero_le _⟩ (Ent.mk' ⟨rfl, rfl, rfl, rfl, trivial⟩ rfl (fun β w' hs => hs)) g ?_
  rintro ⟨A, c, k, out⟩ ⟨hk, hq, ho⟩
  simp only at hk hq ho
  refine BIf.dec (fun hlt => ?_) (fun hge => ?_)
  · have hlt : k < s.length := by have h0 : (k : Int) < (s.length : Int) := hlt; omega
    obtain ⟨x, hx, hxm⟩ := at_lt (l := s) (k := k) hlt
    refine ⟨_, k, rfl, rfl, hlt, byte x, fun β w' hs => Rd.cell1 (hs.get 0 rfl) (by rw [List.getElem?_map, hx]; rfl), ?_⟩
    refine BIf.dec (fun h10 => ?_) (fun h10 => ?_)
    · have q10 : x.toNat = 10 := by have h0 : (x.toNat : Int) = 10 := h10; omega
      refine call_con [1, 2] (fun β w' hs => writeStr_c w' b (selfV b) A (34 :: out) c [92, 110] (.inr rfl) (by rw [List.length_cons]; omega) (by decide) (hs.mem.take (js := [1, 2]) rfl)) ?_
      rintro v Fs ⟨rfl, A2, c2, rfl⟩
      refine ⟨(((k + 1) : Nat) : Int), by rw [wrap_i64 (by first | omega | (dsimp only; omega)) (by first | omega | (dsimp only; omega))]; rfl, ?_⟩
      exact ⟨⟨A2, c2, k + 1, out ++ [92, 110]⟩, ⟨hlt, esc_step hlt hx hq (esc_nl q10), by show (out ++ [92, 110]).length ≤ 2 * (k + 1); rw [List.length_append]; show out.length + 2 ≤ _; omega⟩, by show s.length - (k + 1) < s.length - k; omega, Ent.mk' ⟨rfl, rfl, rfl, rfl, trivial⟩ rfl (fun β w' hs => hs.perm [2, 0, 1])⟩
    have n10 : ¬ x.toNat = 10 := fun h => h10 (by show (x.toNat : Int) = 10; omega)
    refine BIf.dec (fun h34 => ?_) (fun h34 => ?_)
    · have q34 : x.toNat = 34 := by have h0 : (x.toNat : Int) = 34 := h34; omega
      refine call_con [1, 2] (fun β w' hs => writeByte_c w' b (selfV b) A (34 :: out) c 92 (.inr rfl) (by rw [List.length_cons]; omega) (hs.mem.take (js := [1, 2]) rfl)) ?_
      rintro v Fs ⟨rfl, A2, c2, rfl⟩
      refine call_con [0, 1] (fun β w' hs => writeByte_c w' b (selfV b) A2 ((34 :: out) ++ [92]) c2 x (.inr rfl) (by rw [List.length_append, List.length_cons]; show out.length + 1 + 1 < _; omega) (hs.mem.take (js := [0, 1]) rfl)) ?_
      rintro v Fs ⟨rfl, A3, c3, rfl⟩
      rw [List.append_assoc]
      refine ⟨(((k + 1) : Nat) : Int), by rw [wrap_i64 (by first | omega | (dsimp only; omega)) (by first | omega | (dsimp only; omega))]; rfl, ?_⟩
      exact ⟨⟨A3, c3, k + 1, out ++ [92, x]⟩, ⟨hlt, esc_step hlt hx hq (esc_sl n10 (.inl q34)), by show (out ++ [92, x]).length ≤ 2 * (k + 1); rw [List.length_append]; show out.length + 2 ≤ _; omega⟩, by show s.length - (k + 1) < s.length - k; omega, Ent.mk' ⟨rfl, rfl, rfl, rfl, trivial⟩ rfl (fun β w' hs => hs.perm [2, 0, 1])⟩
    have n34 : ¬ x.toNat = 34 := fun h => h34 (by show (x.toNat : Int) = 34; omega)
    refine BIf.dec (fun h92 => ?_) (fun h92 => ?_)
    · have q92 : x.toNat = 92 := by have h0 : (x.toNat : Int) = 92 := h92; omega
      refine call_con [1, 2] (fun β w' hs => writeByte_c w' b (selfV b) A (34 :: out) c 92 (.inr rfl) (by rw [List.length_cons]; omega) (hs.mem.take (js := [1, 2]) rfl)) ?_
      rintro v Fs ⟨rfl, A2, c2, rfl⟩
      refine call_con [0, 1] (fun β w' hs => writeByte_c w' b (selfV b) A2 ((34 :: out) ++ [92]) c2 x (.inr rfl) (by rw [List.length_append, List.length_cons]; show out.length + 1 + 1 < _; omega) (hs.mem.take (js := [0, 1]) rfl)) ?_
      rintro v Fs ⟨rfl, A3, c3, rfl⟩
      rw [List.append_assoc]
      refine ⟨(((k + 1) : Nat) : Int), by rw [wrap_i64 (by first | omega | (dsimp only; omega)) (by first | omega | (dsimp only; omega))]; rfl, ?_⟩
      exact ⟨⟨A3, c3, k + 1, out ++ [92, x]⟩, ⟨hlt, esc_step hlt hx hq (esc_sl n10 (.inr q92)), by show (out ++ [92, x]).length ≤ 2 * (k + 1); rw [List.length_append]; show out.length + 2 ≤ _; omega⟩, by show s.length - (k + 1) < s.length - k; omega, Ent.mk' ⟨rfl, rfl, rfl, rfl, trivial⟩ rfl (fun β w' hs => hs.perm [2, 0, 1])⟩
    have n92 : ¬ x.toNat = 92 := fun h => h92 (by show (x.toNat : Int) = 92; omega)
    refine call_pu (fun β w' hs => insO_c w' x) ?_
    cases hin : insC x with
    | true =>
      refine call_con [1, 2] (fun β w' hs => writeByte_c w' b (selfV b) A (34 :: out) c x (.inr rfl) (by rw [List.length_cons]; omega) (hs.mem.take (js := [1, 2]) rfl)) ?_
      rintro v Fs ⟨rfl, A2, c2, rfl⟩
      refine ⟨(((k + 1) : Nat) : Int), by rw [wrap_i64 (by first | omega | (dsimp only; omega)) (by first | omega | (dsimp only; omega))]; rfl, ?_⟩
      exact ⟨⟨A2, c2, k + 1, out ++ [x]⟩, ⟨hlt, esc_step hlt hx hq (by rw [escC, if_neg n10, if_neg (by omega), if_pos hin]), by show (out ++ [x]).length ≤ 2 * (k + 1); rw [List.length_append]; show out.length + 1 ≤ _; omega⟩, by show s.length - (k + 1) < s.length - k; omega, Ent.mk' ⟨rfl, rfl, rfl, rfl, trivial⟩ rfl (fun β w' hs => hs.perm [2, 0, 1])⟩
    | false =>
      exact no (esc_bad hlt hx hq (by rw [escC, if_neg n10, if_neg (by omega), if_neg (by rw [hin]; decide)]))
  · have e : k = s.length := by have h0 : ¬ (k : Int) < (s.length : Int) := hge; omega
    rw [e, List.drop_length] at hq
    have hq : escS s = some out := by rw [hq]; simp [escS]
    refine tri_seq g ?_
    refine call_con [1, 2] (fun β w' hs => writeByte_c w' b (selfV b) A (34 :: out) c 34 (.inr rfl) (by rw [List.length_cons]; omega) (hs.mem.take (js := [1, 2]) rfl)) ?_
    rintro v Fs ⟨rfl, A2, c2, rfl⟩
    refine tri_seq g ?_
    refine call_con [0, 1] (fun β w' hs => text_c w' b (selfV b) A2 ((34 :: out) ++ [34]) c2 (by simp) (hs.mem.take (js := [0, 1]) rfl)) ?_
    rintro v Fs ⟨rfl, rfl⟩
    refine tri_of g ?_
    intro β w' hs
    refine (hs.keepB (List.nil_sublist _)).fin [] ⟨?_, rfl⟩
    rw [hwr, hq]
    rfl
theorem joinT_c (w : World) (A : Option Addr) (v : List UInt8) (us : List (List UInt8)) (c : Nat) (h : (txF A (v :: us) c).p w) (hd : ∀ k, (txF A (v :: us) c).D k → k < w.heap.size) (hn : us.length ≤ 900) (hc : (v :: us).length ≤ c) (hl : (v ++ catW us).length ≤ 100000000) :
    Pu Tryz.prog n_strings_Join #[.slice A (v :: us).length c, .string ⟨#[32]⟩] w (.string (mkS (v ++ catW us))) := by
  have hr : Rd 1 A (v :: us).length (tx (v :: us)) w := row_rd h
  rcases h.2 with ⟨_, h0⟩ | ⟨b, cap, cur, he, _⟩
  · cases h0
  have hA : A = some ⟨b, 0, none⟩ := by injection he
  subst hA
  have e1 : ((v :: us).map mkS).map (·.data.toList) = v :: us := by
    rw [List.map_map]
    exact (List.map_congr_left (g := id) (fun x _ => mkSo x)).trans (List.map_id _)
  have hj := join_c w b c ((v :: us).map mkS) ⟨#[32]⟩ (by rw [List.length_map, List.map_map]; exact hr) (hd b rfl) (by rw [List.length_map]; show us.length + 1 ≤ _; omega) (by rw [List.length_map]; exact hc) (by
    rw [e1]
    show (Lib.join (v :: us) [32]).length ≤ _
    rw [join_cat]
    omega)
  rw [List.length_map] at hj
  have e2 : joinB ((v :: us).map mkS) ⟨#[32]⟩ = mkS (v ++ catW us) := by
    unfold joinB
    rw [e1]
    show (⟨(Lib.join (v :: us) [32]).toArray⟩ : ByteArray) = _
    rw [join_cat]
    rfl
  rw [e2] at hj
  exact hj
structure TxS where
  A : Option Addr
  c : Nat
  k : Nat
  us : List (List UInt8)
theorem orText_c (w : World) (v : List UInt8) (A : Option Addr) (a : List (List UInt8)) (c : Nat) (hv : v.length ≤ 100000) (ha : a.length ≤ 100) (hal : ∀ x ∈ a, x.length ≤ 100000) (hm : Mem w [argF A a, verbF 0]) :
    Pu Tryz.prog n_order_Command_Text #[.agg #[.string (mkS v), .slice A a.length c]] w (texV (texF v a)) := by
  have g := good_order_Command_Text w (Un [])
  have hml := maxLen_eq
  refine con_go (cx := cx_order_Command_Text w (Un [])) g b_order_Command_Text [.agg [.v (.string (mkS v)), .v (.slice A a.length c)]] [argF A a, verbF 0] hm ?_
  refine call_pu (fun β w' hs => counted_c w' v A a.length c (hs.mem.take (js := [1]) rfl)) ?_
  obtain ⟨e, he⟩ : ∃ e, cntE v a.length = e := ⟨_, rfl⟩
  rw [he]
  refine BIf.not (BIf.dec (fun h0 => ?_) (fun h0 => ?_))
  rotate_left
  · have h0 : ¬ e = 0 := h0
    intro β w' hs
    exact (hs.keepB (List.nil_sublist _)).fin [] ⟨by rw [texF_bad (by rw [he]; exact h0), he]; rfl, rfl⟩
  have h0 : e = 0 := h0
  subst h0
  intro b1
  refine loop_rule 1 (fun j : TxS => [(5, .c (.v (.slice j.A (v :: j.us).length j.c))), (20, .c (.v (.slice A a.length c))), (21, .c (.v (.int .i64 (a.length : Int)))), (22, .c (.v (.int .i64 (j.k : Int))))]) (fun _ => []) (fun j => [txF j.A (v :: j.us) j.c, argF A a])
    (fun j => j.k ≤ a.length ∧ wrtL a = (wrtL (a.drop j.k)).map (j.us ++ ·) ∧ (v ++ catW j.us).length ≤ 100000 + j.k * 200003 ∧ j.us.length = j.k ∧ (v :: j.us).length ≤ j.c) (fun j => a.length - j.k) ⟨some ⟨b1, 0, none⟩, 1, 0, []⟩ ⟨Nat.zero_le _, by cases h : wrtL a <;> simp [h], by simp [catW]; omega, rfl, Nat.le_refl _⟩ (Ent.mk' ⟨rfl, rfl, rfl, rfl, trivial⟩ rfl (fun β w' hs => (hs.keepB (List.nil_sublist _)).perm [0, 1])) g ?_
  rintro ⟨A2, c2, k, us⟩ ⟨hk, hq, hn, hu, hc2⟩
  simp only at hk hq hn hu hc2
  refine BIf.dec (fun hlt => ?_) (fun hge => ?_)
  · have hlt : k < a.length := by have h0 : (k : Int) < (a.length : Int) := hlt; omega
    obtain ⟨x, hx, hxm⟩ := at_lt (l := a) (k := k) hlt
    have hxl := hal x hxm
    obtain ⟨ad, rfl⟩ : ∃ ad, A = some ad := by
      obtain ⟨ad, h, _⟩ := (hm.fact _ List.mem_cons_self : Rd 1 A a.length (tx a) w).2 (by omega)
      exact ⟨ad, h⟩
    refine ⟨ad, k, rfl, rfl, hlt, .string (mkS x), fun β w' hs => Rd.cell1 (hs.get 1 rfl) (by simp [tx, hx]), ?_⟩
    refine call_pu (fun β w' hs => written_c w' x hxl) ?_
    cases hw : wrtS x with
    | none =>
      intro β w' hs
      exact (hs.keepB (List.nil_sublist _)).fin [] ⟨by rw [texF_none he (wl_bad hlt hx hq hw)]; rfl, rfl⟩
    | some u =>
      have hul := wrtS_len hw
      have hn2 : (v ++ catW (us ++ [u])).length ≤ 100000 + (k + 1) * 200003 := by
        rw [catW_snoc, ← List.append_assoc, List.length_append, List.length_cons]
        omega
      intro b2
      refine ⟨1, (v :: us).length, (v :: us).length + 1, tx (v :: us), [.string (mkS u)], tx (v :: (us ++ [u])), rfl, fun β w' hs => row_rd (hs.get 0 rfl), (fun u hu => by obtain rfl := List.mem_singleton.1 hu; rfl), rfl, by simp [tx], by simp only [List.length_cons]; omega, by show ((v :: us).length + 1) * 16 ≤ _; simp only [List.length_cons]; omega, ?_⟩
      intro A3 c3 p3 _ h3
      have e1 : (v :: (us ++ [u])).length = (v :: us).length + 1 := by simp
      rw [← e1] at p3 ⊢
      refine ⟨(((k + 1) : Nat) : Int), by rw [wrap_i64 (by first | omega | (dsimp only; omega)) (by first | omega | (dsimp only; omega))]; rfl, ?_⟩
      exact ⟨⟨A3, c3, k + 1, us ++ [u]⟩, ⟨hlt, wl_step hlt hx hq hw, hn2, by show (us ++ [u]).length = k + 1; rw [List.length_append, hu]; rfl, p3⟩, by show a.length - (k + 1) < a.length - k; omega, Ent.mk' ⟨rfl, rfl, rfl, rfl, trivial⟩ rfl (fun β w' hs => (hs.perm [1, 2]).lower)⟩
  · have e : k = a.length := by have h0 : ¬ (k : Int) < (a.length : Int) := hge; omega
    rw [e, List.drop_length] at hq
    have hq : wrtL a = some us := by rw [hq]; simp [wrtL]
    refine call_pu (fun β w' hs => joinT_c w' A2 v us c2 (hs.get 0 rfl) (hs.getLt 0 rfl) (by omega) hc2 (by omega)) ?_
    refine BIf.dec (fun hg => ?_) (fun hg => ?_)
    · have hg : 4096 < (v ++ catW us).length := by have h : (4096 : Int) < (mkS (v ++ catW us)).size := hg; rw [mkS_len] at h; omega
      intro β w' hs
      exact (hs.keepB (List.nil_sublist _)).fin [] ⟨by rw [texF_some he hq, if_pos hg]; rfl, rfl⟩
    · have hg : ¬ 4096 < (v ++ catW us).length := fun q => hg (by show (4096 : Int) < (mkS (v ++ catW us)).size; rw [mkS_len]; omega)
      intro β w' hs
      exact (hs.keepB (List.nil_sublist _)).fin [] ⟨by rw [texF_some he hq, if_neg hg]; rfl, rfl⟩
theorem equalS_c (w : World) (A B : Option Addr) (xs ys : List ByteArray) (c d : Nat) (hx : Rd 1 A xs.length (xs.map Value.string) w) (hy : Rd 1 B ys.length (ys.map Value.string) w) (hn : xs.length ≤ 1000000) :
    Pu Tryz.prog n_slices_Equal_string_string #[.slice A xs.length c, .slice B ys.length d] w (.bool (decide (xs = ys))) := by
  have g := good_slices_Equal_string_string w (Un [])
  refine con_of_sx (cx := cx_slices_Equal_string_string w (Un [])) g b_slices_Equal_string_string rfl rfl (β := Va.z) [.c (.v (.slice A xs.length c)), .c (.v (.slice B ys.length d))] 0 [] [oldF w] rfl rfl (old_sat rfl) ?_
  refine BIf.not (BIf.dec (fun he => ?_) (fun he => ?_))
  · have hel : xs.length = ys.length := by have h : (xs.length : Int) = ys.length := he; omega
    refine loop_rule (ι := Nat) 0 (fun i => [(0, .c (.v (.slice A xs.length c))), (1, .c (.v (.slice B ys.length d))), (12, .c (.v (.int .i64 (xs.length : Int)))), (13, .c (.v (.int .i64 (i : Int))))]) (fun _ => []) (fun _ => [oldF w])
      (fun i => i ≤ xs.length ∧ xs.take i = ys.take i) (fun i => xs.length - i) 0 ⟨Nat.zero_le _, rfl⟩ (Ent.same ⟨rfl, rfl, rfl, rfl, trivial⟩ rfl) g ?_
    rintro i ⟨hi, hpre⟩
    refine BIf.dec (fun hlt => ?_) (fun hge => ?_)
    · have hlt0 : (i : Int) < xs.length := hlt
      obtain ⟨x, hxi, _⟩ := at_lt (show i < xs.length by omega)
      obtain ⟨y, hyi, _⟩ := at_lt (show i < ys.length by omega)
      obtain ⟨ad, hA, _⟩ := hx.2 (by omega)
      obtain ⟨bd, hB, _⟩ := hy.2 (by omega)
      refine draw_rule g p_slices_Equal_string_string_6 (by kernel_rfl) [] [oldF w] (subPerm [0]) ?_
      refine ⟨_, i, hA, rfl, by omega, ?_⟩
      refine ⟨.string x, fun β w' hs => Rd.cell1 (by have h := Rd.old hx (hs.get 0 rfl); rw [hA] at h; exact h) (by rw [List.getElem?_map, hxi]; rfl), ?_⟩
      refine ⟨_, i, hB, rfl, by omega, ?_⟩
      refine ⟨.string y, fun β w' hs => Rd.cell1 (by have h := Rd.old hy (hs.get 0 rfl); rw [hB] at h; exact h) (by rw [List.getElem?_map, hyi]; rfl), ?_⟩
      refine BIf.not (BIf.dec (fun hxy => ?_) (fun hxy => ?_))
      · have hxy0 : x = y := hxy
        refine ⟨((i + 1 : Nat) : Int), by rw [wrap_i64 (by omega) (by omega)]; rfl, ?_⟩
        exact ⟨i + 1, ⟨by omega, by rw [List.take_add_one, List.take_add_one, hxi, hyi, hpre, hxy0]⟩, by omega, Ent.same ⟨rfl, rfl, rfl, rfl, trivial⟩ rfl⟩
      · have hxy0 : ¬ x = y := hxy
        intro β w' hs
        exact hs.fin [] ⟨by rw [decide_eq_false (fun h => hxy0 (by rw [h, hyi] at hxi; exact (Option.some.inj hxi).symm))]; rfl, rfl⟩
    · have hge0 : ¬ (i : Int) < xs.length := hge
      have hxy : xs = ys := by rw [List.take_of_length_le (by omega), List.take_of_length_le (by omega)] at hpre; exact hpre
      intro β w' hs
      exact hs.fin [] ⟨by rw [decide_eq_true hxy]; rfl, rfl⟩
  · have hne : ¬ (xs.length : Int) = ys.length := he
    intro β w' hs
    exact hs.fin [] ⟨by rw [decide_eq_false (fun h => hne (by rw [h]))]; rfl, rfl⟩
end Go.Proofs.YteenjgfbbkdlhaaGreatDoor.Sx

namespace Go.Proofs.YteenjgfbbkdlhaaGreatDoor.Sx
open Go
theorem BIf.yes {P Q : Prop} {b : Bool} (hb : b = true) (h : P) : BIf P Q b := by subst hb; exact h
theorem BIf.no {P Q : Prop} {b : Bool} (hb : b = false) (h : Q) : BIf P Q b := by subst hb; exact h
end Go.Proofs.YteenjgfbbkdlhaaGreatDoor.Sx

namespace Go.Proofs.YteenjgfbbkdlhaaGreatDoor.Sx
open Go
attribute [local irreducible] Calls
theorem equalT_c (w : World) (A B : Option Addr) (l : List (List UInt8)) (c d : Nat) (hx : Rd 1 A l.length (tx l) w) (hy : Rd 1 B l.length (tx l) w) (hn : l.length ≤ 1000000) :
    Pu Tryz.prog n_slices_Equal_string_string #[.slice A l.length c, .slice B l.length d] w (.bool true) := by
  have h := equalS_c w A B (l.map mkS) (l.map mkS) c d (by rw [List.length_map, List.map_map]; exact hx) (by rw [List.length_map, List.map_map]; exact hy) (by rw [List.length_map]; exact hn)
  rw [decide_eq_true rfl, List.length_map] at h
  exact h
theorem rd_behind {A : Option Addr} {v : List UInt8} {l : List (List UInt8)} {c : Nat} {w : World} (h : Rd 1 A (v :: l).length (tx (v :: l)) w) (hc : l.length + 1 ≤ c) : Rd 1 (cutA A c 1 1) l.length (tx l) w := by
  have h1 := Rd.cutN h (c := c) (i := 1) (j := (v :: l).length) hc (by simp) (Nat.le_refl _)
  have h3 : ((tx (v :: l)).drop (1 * 1)).take (((v :: l).length - 1) * 1) = tx l := by
    rw [List.take_of_length_le (by simp [tx])]
    rfl
  rw [h3] at h1
  exact h1
def fewL (l : List (List UInt8)) : List (List UInt8) := (l.take 7).map (·.take 1500)
theorem fewL_len (l : List (List UInt8)) : (fewL l).length ≤ 7 := by
  unfold fewL
  rw [List.length_map, List.length_take]
  omega
theorem fewL_sz (l : List (List UInt8)) : ∀ x ∈ fewL l, x.length ≤ 1500 := by
  intro x hx
  obtain ⟨y, _, rfl⟩ := List.mem_map.1 hx
  rw [List.length_take]
  omega
theorem fewL_lt {l : List (List UInt8)} {k : Nat} {x : List UInt8} (hx : l[k]? = some x) (h : k < 7) : fewL (l.take (k + 1)) = fewL (l.take k) ++ [x.take 1500] := by
  unfold fewL
  rw [List.take_take, List.take_take, show min 7 (k + 1) = k + 1 by omega, show min 7 k = k by omega, List.take_add_one, hx, List.map_append]
  rfl
theorem fewL_ge {l : List (List UInt8)} {k : Nat} (h : ¬ k < 7) : fewL (l.take (k + 1)) = fewL (l.take k) := by
  unfold fewL
  rw [List.take_take, List.take_take, show min 7 (k + 1) = 7 by omega, show min 7 k = 7 by omega]
structure FwS where
  A : Option Addr
  c : Nat
  k : Nat
theorem refFew_c (w : World) (v : List UInt8) (A : Option Addr) (l : List (List UInt8)) (c : Nat) (hn : l.length ≤ 9223372036854775807) (hm : Mem w [argF A l]) :
    Con Tryz.prog n_ostiaryref24_Few #[.agg #[.string (mkS v), .slice A l.length c]] w [] fun u Fs => ∃ A' c', u = .agg #[.string (mkS (v.take 20)), .slice A' (fewL l).length c'] ∧ Fs = [txF A' (fewL l) c'] := by
  have g := good_ostiaryref24_Few w (Un [])
  have hml := maxLen_eq
  refine con_go (cx := cx_ostiaryref24_Few w (Un [])) g b_ostiaryref24_Few [.agg [.v (.string (mkS v)), .v (.slice A l.length c)]] [argF A l] hm ?_
  refine loop_rule 2 (fun j : FwS => [(3, .c (.v (.slice j.A (fewL (l.take j.k)).length j.c))), (7, .c (.v (.slice A l.length c))), (8, .c (.v (.int .i64 (l.length : Int)))), (9, .c (.v (.int .i64 (j.k : Int)))), (1, .c (.p 0 0)), (2, .c (.p 1 0))]) (fun _ => [⟨1, ty_ostiaryref24_Command, [.v (.string (mkS [])), .v (.slice none 0 0)]⟩, ⟨0, ty_ostiaryref24_Command, [.v (.string (mkS v)), .v (.slice A l.length c)]⟩]) (fun j => [txF j.A (fewL (l.take j.k)) j.c, argF A l])
    (fun j => j.k ≤ l.length ∧ (fewL (l.take j.k)).length ≤ j.c) (fun j => l.length - j.k) ⟨none, 0, 0⟩ ⟨Nat.zero_le _, Nat.le_refl _⟩ (Ent.mk' ⟨rfl, rfl, rfl, rfl, rfl, rfl, trivial⟩ rfl (fun β w' hs => hs.nilRow ty_string 1)) g ?_
  rintro ⟨A2, c2, k⟩ ⟨hk, hc2⟩
  simp only at hk hc2
  refine BIf.dec (fun hlt => ?_) (fun hge => ?_)
  · have hlt : k < l.length := by have h0 : (k : Int) < (l.length : Int) := hlt; omega
    obtain ⟨x, hx, hxm⟩ := at_lt (l := l) (k := k) hlt
    obtain ⟨ad, rfl⟩ : ∃ ad, A = some ad := by
      obtain ⟨ad, h, _⟩ := (hm.fact _ List.mem_cons_self : Rd 1 A l.length (tx l) w).2 (by omega)
      exact ⟨ad, h⟩
    refine ⟨ad, k, rfl, rfl, hlt, .string (mkS x), fun β w' hs => Rd.cell1 (hs.get 1 rfl) (by simp [tx, hx]), ?_⟩
    refine BIf.dec (fun h7 => ?_) (fun h7 => ?_)
    · have h7 : k < 7 := by have h0 : (k : Int) < 7 := h7; omega
      have hnx := fewL_lt hx h7
      have hl1 : (fewL (l.take (k + 1))).length = (fewL (l.take k)).length + 1 := by rw [hnx, List.length_append]; rfl
      have hol := fewL_len (l.take (k + 1))
      refine call_pu (fun β w' hs => cutTextO_c w' (mkS x) 1500 (by decide)) ?_
      rw [mkSo]
      intro b2
      refine ⟨1, (fewL (l.take k)).length, (fewL (l.take (k + 1))).length, tx (fewL (l.take k)), [.string (mkS (x.take 1500))], tx (fewL (l.take (k + 1))), rfl, fun β w hs => row_rd (hs.get 0 rfl), (fun u hu => by obtain rfl := List.mem_singleton.1 hu; rfl), by rw [hl1], by rw [hnx]; simp [tx], by omega, by show (fewL (l.take (k + 1))).length * 16 ≤ _; omega, ?_⟩
      intro A' c' q1 q2 q3
      refine ⟨((k + 1 : Nat) : Int), by rw [wrap_i64 (by first | omega | (dsimp only; omega)) (by first | omega | (dsimp only; omega))]; rfl, ?_⟩
      exact ⟨⟨A', c', k + 1⟩, ⟨hlt, q1⟩, by show l.length - (k + 1) < l.length - k; omega, Ent.mk' ⟨rfl, rfl, rfl, rfl, rfl, rfl, trivial⟩ rfl (fun β w' hs => (hs.perm [1, 2]).lower)⟩
    · have h7 : ¬ k < 7 := fun h => h7 (by show (k : Int) < 7; omega)
      have hnx := fewL_ge (l := l) h7
      refine ⟨((k + 1 : Nat) : Int), by rw [wrap_i64 (by first | omega | (dsimp only; omega)) (by first | omega | (dsimp only; omega))]; rfl, ?_⟩
      refine ⟨⟨A2, c2, k + 1⟩, ⟨hlt, by show (fewL (l.take (k + 1))).length ≤ c2; rw [hnx]; exact hc2⟩, by show l.length - (k + 1) < l.length - k; omega, ?_⟩
      simp only [hnx]
      exact Ent.same ⟨rfl, rfl, rfl, rfl, rfl, rfl, trivial⟩ rfl
  · have hge0 : k = l.length := by have h0 : ¬ (k : Int) < (l.length : Int) := hge; omega
    have hfin : fewL (l.take k) = fewL l := by rw [hge0, List.take_length]
    rw [hfin] at hc2 ⊢
    refine call_pu (fun β w' hs => cutTextO_c w' (mkS v) 20 (by decide)) ?_
    rw [mkSo]
    intro β w' hs
    exact (hs.keepB (List.nil_sublist _)).fin [0] ⟨A2, c2, rfl, rfl⟩ rfl rfl rfl ⟨rfl, trivial⟩
theorem texF_len {v : List UInt8} {a : List (List UInt8)} {s : List UInt8} (h : texF v a = (s, 0)) : s.length ≤ 4096 := by
  by_cases h0 : cntE v a.length = 0
  · cases hw : wrtL a with
    | none => rw [texF_none h0 hw] at h; cases h
    | some us =>
      rw [texF_some h0 hw] at h
      split at h
      · cases h
      · injection h with h _
        rw [← h]
        omega
  · rw [texF_bad h0] at h
    injection h with _ h
    exact absurd h h0
set_option maxHeartbeats 1000000 in
theorem orderTexts_c (w : World) (v0 : List UInt8) (A0 : Option Addr) (l0 : List (List UInt8)) (c0 : Nat) (hn : l0.length ≤ 9223372036854775807) (hm : Mem w [argF A0 l0, oddF 5, firstF 2, namF, verbF 0]) :
    Con Tryz.prog n_ostiarylaw24_OrderTexts #[.agg #[.string (mkS v0), .slice A0 l0.length c0]] w [] fun v Fs => v = .bool true ∧ Fs = [] := by
  have g := good_ostiarylaw24_OrderTexts w (Un [])
  refine con_go (cx := cx_ostiarylaw24_OrderTexts w (Un [])) g b_ostiarylaw24_OrderTexts [.agg [.v (.string (mkS v0)), .v (.slice A0 l0.length c0)]] [argF A0 l0, oddF 5, firstF 2, namF, verbF 0] hm ?_
  refine call_con [] (fun β w' hs => awake24_c w' (hs.mem.take (js := [1, 2, 3, 4]) rfl)) ?_
  rintro v Fs ⟨rfl, rfl⟩
  refine call_conS [] (fun β w' hs => refFew_c w' v0 A0 l0 c0 hn (hs.mem.take (js := [0]) rfl)) ?_
  rintro v Fs ⟨A, c, rfl, rfl⟩
  refine ⟨_, _, fun β w' hs => hs.rowRd 0 rfl, ?_⟩
  have hal := fewL_sz l0
  have hll := fewL_len l0
  have hvl : (v0.take 20).length ≤ 20 := by rw [List.length_take]; omega
  generalize v0.take 20 = vb at hvl ⊢
  generalize fewL l0 = a at hal hll ⊢
  obtain ⟨s, e, ht⟩ : ∃ s e, texF vb a = (s, e) := ⟨_, _, rfl⟩
  have hto : ∀ w', Mem w' [argF A a, verbF 0] → Pu Tryz.prog n_order_Command_Text #[.agg #[.string (mkS vb), .slice A a.length c]] w' (.tuple #[.string (mkS s), .int .i64 e]) := fun w' hm => by
    have h := orText_c w' vb A a c (by omega) (by omega) (fun x hx => by have := hal x hx; omega) hm
    rw [ht] at h
    exact h
  have htr : ∀ w', Mem w' [argF A a] → Pu Tryz.prog n_ostiaryref24_Text #[.agg #[.string (mkS vb), .slice A a.length c]] w' (.tuple #[.string (mkS s), .int .i64 e]) := fun w' hm => by
    have h := refText_c w' vb A a c (by omega) (by omega) (fun x hx => by have := hal x hx; omega) hm
    rw [ht] at h
    exact h
  refine call_pu (fun β w' hs => hto w' (hs.mem.take (js := [0, 5]) rfl)) ?_
  refine call_pu (fun β w' hs => htr w' (hs.mem.take (js := [0]) rfl)) ?_
  refine BIf.not (BIf.dec (fun _ => ?_) (fun h => absurd rfl h))
  refine BIf.not (BIf.dec (fun _ => ?_) (fun h => absurd rfl h))
  refine BIf.not (BIf.dec (fun he => ?_) (fun he => ?_))
  rotate_left
  · intro β w' hs
    exact (hs.keepB (List.nil_sublist _)).fin [] ⟨rfl, rfl⟩ rfl rfl rfl ⟨⟩
  have he : e = 0 := he
  subst he
  have hsl := texF_len ht
  have hpt := par_tex ht
  refine call_con [] (fun β w' hs' => parse_c w' s (by omega) (hs'.mem.take (js := [5]) rfl)) ?_
  rintro v Fs hp
  rcases hp with ⟨A4, c4, v4, a4, _, hw4, _, hp4, rfl, hc4, rfl⟩ | ⟨e4, hp4, he4, hl4, hu4, rfl, rfl⟩
  rotate_left
  · rw [hpt] at hp4
    cases hp4
    exact absurd rfl he4
  rw [hpt] at hp4
  cases hp4
  refine BIf.dec (fun _ => ?_) (fun h => absurd (show mkS vb = mkS vb by first | rfl | assumption | decide) h)
  refine call_pu (fun β w' hs => equalT_c w' (cutA A4 c4 1 1) A a (c4 - 1) c (rd_behind (row_rd (hs.get 0 rfl)) hc4) (hs.get 1 rfl) (by omega)) ?_
  intro β w' hs
  exact (hs.keepB (List.nil_sublist _)).fin [] ⟨rfl, rfl⟩ rfl rfl rfl ⟨⟩
theorem cmd_of {w : World} {m : Nat} {cs : List Value} (h : Opens Tryz.prog w m ty_ostiaryref24_Command cs) : ∃ (v : List UInt8) (A : Option Addr) (l : List (List UInt8)) (c : Nat), cs = [.string (mkS v), .slice A l.length c] ∧ Rd 1 A l.length (tx l) w ∧ l.length ≤ maxLen := by
  have cT : Tryz.prog.cellsOf ty_string = 1 := by kernel_rfl
  have cL : Tryz.prog.cellsOf ty_sl_string = 1 := by kernel_rfl
  have cC : Tryz.prog.cellsOf ty_ostiaryref24_Command = 2 := by kernel_rfl
  obtain ⟨m3, hl, hf⟩ := h.structT (ok48) rfl
  have f0 := hf 0 0 1 ty_string rfl rfl
  have f1 := hf 1 1 1 ty_sl_string rfl rfl
  rw [cC] at hl
  rw [cT] at f0
  rw [cL] at f1
  obtain ⟨x0, r0, rfl, k0⟩ := len_cons hl
  obtain ⟨x1, r1, rfl, k1⟩ := len_cons k0
  obtain rfl := List.eq_nil_of_length_eq_zero k1
  obtain ⟨t, h0, s0⟩ := f0.str ((ok9).real (d := .string) rfl rfl)
  obtain ⟨A, k, c, xs, m4, h4, _, q2, q3, _, _, q6, q7⟩ := f1.slice ((ok34).real (d := .slice ty_string) rfl rfl)
  obtain ⟨ss, hsl, hfl, hok⟩ := list_choose (f := fun s : ByteArray => [Value.string s]) (p := fun s => s.size ≤ maxLen) (xs := xs) (fun y hy => (q7 y hy).str ((ok9).real (d := .string) rfl rfl))
  have hfm : ss.flatMap (fun s => [Value.string s]) = strs ss := flat_one Value.string ss
  rw [cT, hfl, hfm] at q6
  have hk : k = ss.length := by omega
  subst hk
  simp at h0 h4
  subst h0 h4
  have e : tx (ss.map (·.data.toList)) = strs ss := by
    unfold tx strs
    rw [List.map_map]
    refine List.map_congr_left (fun s _ => ?_)
    simp [mkS]
  refine ⟨t.data.toList, A, ss.map (·.data.toList), c, ?_, ?_, ?_⟩
  · rw [List.length_map]
    simp [mkS]
  · rw [List.length_map, e]
    exact q6
  · rw [List.length_map]
    omega
end Go.Proofs.YteenjgfbbkdlhaaGreatDoor.Sx

namespace Go.Proofs.YteenjgfbbkdlhaaGreatDoor.Sx
open Go
def RoOk (w : World) (f : Fact) : Prop := f.own = false ∧ f.p w ∧ ∀ k, f.D k → k < w.heap.size
theorem mem_ro {w : World} {Fs : List Fact} (h : ∀ f ∈ Fs, RoOk w f) : Mem w Fs := by
  refine ⟨fun f hf => (h f hf).2.1, fun f hf k hk => (h f hf).2.2 k hk, ?_⟩
  induction Fs with
  | nil => exact List.Pairwise.nil
  | cons f r ih =>
    refine List.pairwise_cons.2 ⟨fun g hg q => ?_, ih (fun g hg => h g (List.mem_cons_of_mem _ hg))⟩
    rcases q with q | q
    · rw [(h f List.mem_cons_self).1] at q; cases q
    · rw [(h g (List.mem_cons_of_mem _ hg)).1] at q; cases q
theorem rd_ok {w : World} {size : Nat} {A : Option Addr} {k : Nat} {xs : List Value} (h : Rd size A k xs w) : RoOk w (rdF size A k xs) := ⟨rfl, h, rd_lt h⟩
theorem ro_nil {w : World} : ∀ f ∈ ([] : List Fact), RoOk w f := fun f h => by cases h
theorem ro_cons {w : World} {f : Fact} {r : List Fact} (h1 : RoOk w f) (h2 : ∀ g ∈ r, RoOk w g) : ∀ g ∈ f :: r, RoOk w g := fun g hg => by
  rcases List.mem_cons.1 hg with rfl | hg
  · exact h1
  · exact h2 g hg
theorem nam_ok {w : World} (f : Forms 10 w) (s5 : (spansF 8 blanksL).p w) (s6 : (spansF 9 nothingL).p w) (s4 : (spansF 4 barredL).p w) : RoOk w namF := by
  refine ⟨rfl, fun g hg => ?_, fun k hk => ?_⟩
  · simp only [List.mem_cons, List.not_mem_nil, or_false] at hg
    rcases hg with rfl | rfl | rfl | rfl
    · exact f
    · exact s5
    · exact s6
    · exact s4
  · obtain ⟨g, hg, hk⟩ := hk
    simp only [List.mem_cons, List.not_mem_nil, or_false] at hg
    rcases hg with rfl | rfl | rfl | rfl
    · exact rd_lt f k hk
    · exact rd_lt s5 k hk
    · exact rd_lt s6 k hk
    · exact rd_lt s4 k hk
end Go.Proofs.YteenjgfbbkdlhaaGreatDoor.Sx

namespace Go.Proofs.YteenjgfbbkdlhaaGreatDoor.Sx
open Go
attribute [local irreducible] Calls
def errF (g : Nat) : Fact where
  own := false
  D := fun k => k = g
  p := fun w => ∃ ev, w.cell? ⟨g, 0, none⟩ = some ev ∧ (ev = .nilIface ∨ ∃ te pe, ev = .iface te pe)
  st := fun w w' hs ⟨ev, h, h2⟩ => ⟨ev, by rw [← h]; exact World.cell?_of_block (hs _ rfl), h2⟩
end Go.Proofs.YteenjgfbbkdlhaaGreatDoor.Sx

namespace Go.Proofs.YteenjgfbbkdlhaaGreatDoor.Sx
open Go Go.RowKit Go.Sort
attribute [local irreducible] Calls
def powF : Fact where
  own := false
  D := fun k => k = 3
  p := fun w => Lib.TabIs Tryz.prog w "internal/strconv.uint64pow10" .u64 Lib.pow10Tab
  st := fun w w' hs h => by
    have hg : Tryz.prog.globalNamed "internal/strconv.uint64pow10" = some 3 := by kernel_rfl
    unfold Lib.TabIs World.var? at h ⊢
    rw [hg] at h ⊢
    simp only [Option.bind_some] at h ⊢
    rw [hs _ rfl]
    exact h
end Go.Proofs.YteenjgfbbkdlhaaGreatDoor.Sx

namespace Go.Proofs.YteenjgfbbkdlhaaGreatDoor.Sx
open Go
section
variable {H : Type} {enc : TypeId × Value → H} {w : World} {base : Nat} {sp : Nat → Bool} {held : Bool}
theorem pow_of {m n : Nat} {t e : TypeId} {cs : Array Value} {d : DataW H} {q : List MemPlace} (ht : Tryz.prog.underlying t = some (.array n e)) (he : Tryz.prog.underlying e = some (.int .u64)) (hce : Tryz.prog.cellsOf e = 1) (hct : Tryz.prog.cellsOf t = n) (hdd : d = Lib.tabData .u64 Lib.pow10Tab)
    (hd : DataW.trod enc Tryz.prog w base sp held m t cs.toList = some (d, q)) (hv : w.var? Tryz.prog "internal/strconv.uint64pow10" = some cs) : powF.p w := by
  subst hdd
  show Lib.TabIs _ _ _ _ _
  unfold Lib.TabIs
  rw [hv, ← Lib.cells_of_tab ht he hce hct hd]
theorem err_of {P : Program} {m g : Nat} {t : TypeId} {cs : Array Value} {s : String} {d : DataW H} {q : List MemPlace} (hi : isIf (P.underlying t) = true)
    (hd : DataW.trod enc P w base sp held m t cs.toList = some (.iface s d, q)) (hcell : ∀ j, w.cell? ⟨g, j, none⟩ = cs[j]?) : (errF g).p w := by
  obtain ⟨ms, hms⟩ : ∃ ms, P.underlying t = some (.interface ms) := by
    unfold isIf at hi
    split at hi
    · rename_i ms h; exact ⟨ms, h⟩
    · cases hi
  cases m with
  | zero => simp [DataW.trod] at hd
  | succ m =>
    have h0 : w.cell? ⟨g, 0, none⟩ = cs.toList[0]? := by rw [hcell 0, Array.getElem?_toList]
    generalize cs.toList = l at hd h0
    match l, hd, h0 with
    | [], hd, _ => simp [DataW.trod, hms] at hd
    | [v], hd, h0 =>
      have h1 : w.cell? ⟨g, 0, none⟩ = some v := h0
      cases v with
      | nilIface => exact ⟨_, h1, .inl rfl⟩
      | iface u x => exact ⟨_, h1, .inr ⟨u, x, rfl⟩⟩
      | _ => simp [DataW.trod, hms] at hd
    | a :: b :: r, hd, _ => simp [DataW.trod, hms] at hd
end
end Go.Proofs.YteenjgfbbkdlhaaGreatDoor.Sx

namespace Go.Proofs.YteenjgfbbkdlhaaGreatDoor.Sx
open Go Go.RowKit
theorem below_of {w w' : World} (h : Chg None_ w w') : Below w.heap.size w w' :=
  ⟨h.os, h.tape, h.output, h.size, fun k hk => h.same k hk (fun q => q)⟩
end Go.Proofs.YteenjgfbbkdlhaaGreatDoor.Sx

namespace Go.Proofs.YteenjgfbbkdlhaaGreatDoor.Sx
open Go
theorem rd_of_ints {H : Type} {enc : TypeId × Value → H} {P : Program} {W : World} {base : Nat} {sp : Nat → Bool} {held : Bool} {fuel g n : Nat} {t e : TypeId} {k : IntKind} {cs : Array Value} {zs : List Int} {q : List MemPlace}
    (ht : P.underlying t = some (.array n e)) (he : P.underlying e = some (.int k)) (hc : P.cellsOf e = 1) (hd : DataW.trod enc P W base sp held fuel t cs.toList = some (.agg (zs.map fun z => .lit (.int k z)), q)) (hcell : ∀ j, W.cell? ⟨g, j, none⟩ = cs[j]?) :
    Rd 1 (some ⟨g, 0, none⟩) zs.length (zs.map (Value.int k)) W := by
  obtain ⟨xs, m, _, hx, hlen, hn, hel⟩ := DataW.trod_array ht hd
  simp only [Prod.mk.injEq, DataW.agg.injEq] at hx
  have hzn : zs.length = n := by
    have h9 := congrArg List.length hx.1
    simp only [List.length_map] at h9
    omega
  refine ⟨by simp, fun hp => ⟨_, rfl, fun j u hu => ?_⟩⟩
  rw [List.getElem?_map] at hu
  obtain ⟨z, hz, rfl⟩ := Option.map_eq_some_iff.1 hu
  have hj : j < zs.length := (List.getElem?_eq_some_iff.1 hz).1
  have h1 := hel j (by omega)
  have h2 : (xs.map (·.1))[j]? = some (.lit (.int k z)) := by rw [← hx.1, List.getElem?_map, hz]; rfl
  rw [List.getElem?_map] at h2
  obtain ⟨x, hxj, hx1⟩ := Option.map_eq_some_iff.1 h2
  rw [hxj, hc, Nat.mul_one] at h1
  obtain ⟨y, e1, e2, _⟩ := DataW.trod_int he h1
  have hy : y = z := by
    rw [e2] at hx1
    simpa using hx1
  subst hy
  rw [add_none, Nat.zero_add, hcell j, ← Array.getElem?_toList]
  have h3 := congrArg (fun l => l[0]?) e1
  simpa [List.getElem?_drop] using h3
abbrev u32s (l : List UInt32) : List Int := l.map fun x => (x.toNat : Int)
theorem rd_u32 {g : Nat} {W : World} {l : List UInt32} (h : Rd 1 (some ⟨g, 0, none⟩) (u32s l).length ((u32s l).map (Value.int .u32)) W) : Rd 1 (some ⟨g, 0, none⟩) l.length (l.map u32) W := by
  have e : (u32s l).map (Value.int .u32) = l.map u32 := by rw [List.map_map]; rfl
  rw [e, List.length_map] at h
  exact h
end Go.Proofs.YteenjgfbbkdlhaaGreatDoor.Sx

namespace Go.Proofs.YteenjgfbbkdlhaaGreatDoor.Sx
open Go
mutual
def lits {H : Type} : DataW H → Option (List Value)
  | .lit (.int k n) => some [.int k n]
  | .lit (.bool b) => some [.bool b]
  | .lit (.string l) => some [.string ⟨l.toArray⟩]
  | .agg ps => litsL ps
  | _ => none
def litsL {H : Type} : List (DataW H) → Option (List Value)
  | [] => some []
  | d :: r => match lits d, litsL r with
    | some a, some b => some (a ++ b)
    | _, _ => none
end
def contig (P : Program) : List Field → Nat → Option Nat
  | [], o => some o
  | f :: r, o => if f.offset = o then contig P r (o + P.cellsOf f.type) else none
def flatB (P : Program) : Nat → TypeId → Bool
  | 0, _ => false
  | n + 1, t => match P.underlying t with
    | some (.int _) | some .bool | some .string => true
    | some (.struct fs) => (match contig P fs.toList 0 with | some e => Nat.beq e (P.cellsOf t) | none => false) && fs.toList.all fun f => flatB P n f.type
    | some (.array m e) => Nat.beq (m * P.cellsOf e) (P.cellsOf t) && flatB P n e
    | _ => false
section
variable {H : Type} {enc : TypeId × Value → H} {P : Program} {w : World} {base : Nat} {sp : Nat → Bool} {held : Bool}
theorem fields_cat (m : Nat) (cs : List Value) : ∀ (fs : List Field) (xs : List (DataW H × List MemPlace)) (o e : Nat), contig P fs o = some e → xs.length = fs.length →
    (∀ (i : Nat) (f : Field), fs[i]? = some f → DataW.trod enc P w base sp held m f.type ((cs.drop f.offset).take (P.cellsOf f.type)) = xs[i]?) →
    (∀ f ∈ fs, ∀ cs' x, DataW.trod enc P w base sp held m f.type cs' = some x → lits x.1 = some cs') → o ≤ e ∧ litsL (xs.map (·.1)) = some ((cs.drop o).take (e - o))
  | [], xs, o, e, hc, hl, _, _ => by
    obtain rfl := Option.some.inj hc
    obtain rfl := List.eq_nil_of_length_eq_zero hl
    exact ⟨Nat.le_refl _, by simp [litsL]⟩
  | f :: r, [], o, e, hc, hl, _, _ => by cases hl
  | f :: r, x :: xs, o, e, hc, hl, h, ih => by
    simp only [contig] at hc
    split at hc
    · rename_i ho
      have h0 := h 0 f rfl
      rw [ho] at h0
      have h1 := ih f List.mem_cons_self _ x h0
      obtain ⟨h2, h3⟩ := fields_cat m cs r xs _ e hc (by simpa using hl) (fun i g hg => by
        have := h (i + 1) g (by simpa using hg)
        simpa using this) (fun g hg => ih g (List.mem_cons_of_mem _ hg))
      refine ⟨by omega, ?_⟩
      simp only [List.map_cons, litsL, h1, h3]
      congr 1
      have e1 : e - o = P.cellsOf f.type + (e - (o + P.cellsOf f.type)) := by omega
      rw [e1, List.take_add, List.drop_drop]
    · cases hc
theorem elems_cat (m k : Nat) (ty : TypeId) (cs : List Value) (hk : P.cellsOf ty = k) : ∀ (n : Nat) (xs : List (DataW H × List MemPlace)) (o : Nat), xs.length = n →
    (∀ i, i < n → DataW.trod enc P w base sp held m ty ((cs.drop (o + i * k)).take k) = xs[i]?) →
    (∀ cs' x, DataW.trod enc P w base sp held m ty cs' = some x → lits x.1 = some cs') → litsL (xs.map (·.1)) = some ((cs.drop o).take (n * k))
  | 0, xs, o, hl, _, _ => by
    obtain rfl := List.eq_nil_of_length_eq_zero hl
    simp [litsL]
  | n + 1, [], o, hl, _, _ => by cases hl
  | n + 1, x :: xs, o, hl, h, ih => by
    have h0 := h 0 (Nat.succ_pos _)
    rw [Nat.zero_mul, Nat.add_zero] at h0
    have h1 := ih _ x h0
    have h3 := elems_cat m k ty cs hk n xs (o + k) (by simpa using hl) (fun i hi => by
      have := h (i + 1) (by omega)
      rw [Nat.succ_mul, Nat.add_comm (i * k) k, ← Nat.add_assoc] at this
      simpa using this) ih
    simp only [List.map_cons, litsL, h1, h3]
    congr 1
    rw [Nat.succ_mul, Nat.add_comm (n * k) k, List.take_add, List.drop_drop]
theorem cells_of : ∀ (k m : Nat) (t : TypeId) (cs : List Value) (x : DataW H × List MemPlace), flatB P k t = true → DataW.trod enc P w base sp held m t cs = some x → lits x.1 = some cs
  | 0, _, _, _, _, h, _ => by cases h
  | k + 1, m, t, cs, x, h, hd => by
    unfold flatB at h
    split at h
    · rename_i ht
      obtain ⟨n, rfl, rfl, _⟩ := DataW.trod_int ht hd
      rfl
    · rename_i ht
      obtain ⟨n, rfl, rfl⟩ := DataW.trod_bool ht hd
      rfl
    · rename_i ht
      obtain ⟨s, rfl, rfl, _⟩ := DataW.trod_string ht hd
      cases s with | mk a => simp [lits, ByteArray.toList_eq]
    · rename_i fs ht
      obtain ⟨xs, n, rfl, rfl, hl, hxl, hel⟩ := DataW.trod_struct ht hd
      simp only [Bool.and_eq_true] at h
      obtain ⟨hcon, hall⟩ := h
      cases hc : contig P fs.toList 0 with
      | none => rw [hc] at hcon; cases hcon
      | some e =>
        rw [hc] at hcon
        have he := Nat.eq_of_beq_eq_true hcon
        subst he
        have := (fields_cat n cs fs.toList xs 0 _ hc (by simpa using hxl) (fun i f hf => hel i f (by simpa using hf)) (fun f hf cs' x' hx => cells_of k n f.type cs' x' (List.all_eq_true.1 hall f hf) hx)).2
        simp only [lits, this, List.drop_zero, Nat.sub_zero]
        rw [← hl, List.take_length]
    · rename_i n e ht
      obtain ⟨xs, m', rfl, rfl, hl, hxl, hel⟩ := DataW.trod_array ht hd
      simp only [Bool.and_eq_true] at h
      have he := Nat.eq_of_beq_eq_true h.1
      have := elems_cat m' (P.cellsOf e) e cs rfl n xs 0 hxl (fun i hi => by rw [Nat.zero_add]; exact hel i hi) (fun cs' x' hx => cells_of k m' e cs' x' h.2 hx)
      simp only [lits, this, List.drop_zero, he]
      rw [← hl, List.take_length]
    · cases h
theorem rd_of_laid {g n size m : Nat} {t : TypeId} {cs : Array Value} {d : DataW H} {q : List MemPlace} {vs : List Value} (hf : flatB P 5 t = true) (hv : lits d = some vs) (hn : vs.length = n * size)
    (hd : DataW.trod enc P w base sp held m t cs.toList = some (d, q)) (hcell : ∀ j, w.cell? ⟨g, j, none⟩ = cs[j]?) : Rd size (some ⟨g, 0, none⟩) n vs w := by
  have h := cells_of 5 m t _ _ hf hd
  rw [hv] at h
  have h' := Option.some.inj h
  refine ⟨hn, fun _ => ⟨_, rfl, fun j u hu => ?_⟩⟩
  rw [add_none, Nat.zero_add, hcell j, ← Array.getElem?_toList, ← h']
  exact hu
end
end Go.Proofs.YteenjgfbbkdlhaaGreatDoor.Sx
