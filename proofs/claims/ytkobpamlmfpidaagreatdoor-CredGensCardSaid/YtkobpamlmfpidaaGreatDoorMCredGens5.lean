/- Texts joined: CrP, UsG, CoC, UsA, NlT, St0, St0b, Has, StepG, Bk2, Box1, Box2, Join, Bk3, SumJ, HmL, Rep, Rep2, Hm1, Bk4, Bk5, Srt, Bk6, Bk7, Bk8, Bk9, Xor, Hm2, Hm3, Hsh, Hsh2, Hsh3, Mac, Pie, Pie2, Str, Trn, Turn, Ak5, Ak6, BxP, Rf5, Rt1, Rt2, Rt3, Rt4, Rt5, Tl2, Tl3, TlG, R14l, R14m, R14n, Op14, GnP, SxAs, Oq14, Flip, R14k, Do14, EqS, Sm14, Sto8, Aw14, Cp14, Cs14, GiP, SxIter, KyI, MpI, Cg14, SxArg, Laid, Laid2. -/
import Derived.Test.YtkobpamlmfpidaaGreatDoorMCredGens4
import Derived.Test.YtkobpamlmfpidaaGreatDoorMCredGens3
import Derived.Test.YtkobpamlmfpidaaGreatDoorMCredGens2
import Derived.Lib.Join
import Derived.Lib.SlParts
import Derived.Lib.SlFresh
import Derived.Lib.MakeNoZero
import Derived.Laws.Externs
import Derived.Sort.OwnSortedInts
import Derived.Maps.RangeRun
import Derived.Laws.StructEq
import Derived.Below
import Derived.OpenShut
import Derived.ChangeArms
import Derived.LaidMore
set_option linter.unusedVariables false
set_option linter.unusedSimpArgs false
/- Credentials' rows in a pool; a credential copied whole, to be written to. -/
namespace Go.Proofs.YtkobpamlmfpidaaGreatDoor.Sx
open Go
attribute [local irreducible] Calls

section
variable {cx : Cx} {β : Va} {n : Nat} {H : List Bk} {F : List Fact} {w : World}
/-- Two pools are one. -/
theorem Sat.joinPo (h : Sat cx β n H F w) (i j : Nat) {P Q : List Fact} (hi : nth F i = some (poF P)) (hj : nth F j = some (poF Q)) (hn : nodupB [i, j] = true := by rfl) : Sat cx β n H (poF (P ++ Q) :: dropIx [i, j] 0 F) w := by
  have e : takeIx F [i, j] = [poF P, poF Q] := by simp only [takeIx, hi, hj]
  refine h.fuse [i, j] (poF (P ++ Q)) (fun w hm => ?_) (fun k hk => ?_) hn (by rw [e]; exact ⟨rfl, rfl, trivial⟩)
  · rw [e] at hm
    intro f hf
    rcases List.mem_append.1 hf with q | q
    · exact hm.fact (poF P) (by simp) f q
    · exact hm.fact (poF Q) (by simp) f q
  · rw [e]
    obtain ⟨f, hf, hk⟩ := hk
    rcases List.mem_append.1 hf with q | q
    · exact ⟨poF P, by simp, f, q, hk⟩
    · exact ⟨poF Q, by simp, f, q, hk⟩
theorem Sat.nilPo (h : Sat cx β n H F w) : Sat cx β n H (poF [] :: F) w := h.noMem _ (fun f hf => by cases hf) (fun k hk => by obtain ⟨f, hf, _⟩ := hk; cases hf)
end
/-- Credentials' rows, all of them. -/
def csF (cs : List Crd) : Fact := poF (cs.map crRd)
theorem csF_app (cs ds : List Crd) : poF (cs.map crRd ++ ds.map crRd) = csF (cs ++ ds) := by unfold csF; rw [List.map_append]
theorem csF_at {cs : List Crd} {w : World} (h : (csF cs).p w) {c : Crd} (hc : c ∈ cs) : SRd c.sec.x c.sec.a w ∧ Rd 1 c.rA c.roles.length (strs c.roles) w := h (crRd c) (List.mem_map.2 ⟨c, hc, rfl⟩)
theorem sec_rows {y : Sec} {k : Nat} (h : (secF y.x y.a).D k) : ∃ f ∈ [y.ha1.f, y.server.f, y.stored.f, y.salt.f], f.D k := by
  obtain ⟨f, hf, hk⟩ := h
  simp only [List.mem_cons, List.not_mem_nil, or_false] at hf
  rcases hf with rfl | rfl | rfl | rfl
  · exact ⟨y.salt.f, by simp, hk⟩
  · exact ⟨y.stored.f, by simp, hk⟩
  · exact ⟨y.server.f, by simp, hk⟩
  · exact ⟨y.ha1.f, by simp, hk⟩
theorem Sec.rdR {y : Sec} {w : World} (h : ∀ f ∈ [y.ha1.f, y.server.f, y.stored.f, y.salt.f], f.p w) : SRd y.x y.a w := Sec.rd fun f hf => h f (by
  simp only [Sec.fs, List.mem_cons, List.not_mem_nil, or_false] at hf ⊢
  rcases hf with rfl | rfl | rfl | rfl <;> simp)
/-- A copy's rows are a pool. -/
theorem Sat.toCs {cx : Cx} {β : Va} {n : Nat} {H : List Bk} {F : List Fact} {w : World} (h : Sat cx β n H F w) (js : List Nat) {c : Crd} (e : takeIx F js = crdRows c) (hn : nodupB js = true := by rfl) : Sat cx β n H (csF [c] :: dropIx js 0 F) w := by
  have hs : ∀ {w : World}, Mem w (takeIx F js) → (srowF c.rA c.roles c.rc).p w := fun hm => hm.fact _ (by rw [e]; simp [crdRows])
  have hm0 := h.mem.take hn
  refine h.fuse js (csF [c]) (fun w hm => ?_) (fun k hk => ?_) hn (by rw [e]; exact ⟨rfl, rfl, rfl, rfl, rfl, trivial⟩)
  · intro f hf
    obtain rfl := List.mem_singleton.1 hf
    refine ⟨Sec.rdR fun f hf => hm.fact f ?_, row_rd (hs hm)⟩
    rw [e]
    exact List.mem_cons_of_mem _ hf
  · obtain ⟨f, hf, hk⟩ := hk
    obtain rfl := List.mem_singleton.1 hf
    rw [e]
    rcases hk with hk | hk
    · obtain ⟨f, hf, hk⟩ := sec_rows hk
      exact ⟨f, List.mem_cons_of_mem _ hf, hk⟩
    · exact ⟨srowF c.rA c.roles c.rc, by simp [crdRows], strsRowD (hs hm0) k hk⟩

/-! ### copies that may be written to -/
theorem cloneW_c (w : World) (A : Option Addr) (l : List UInt8) (n c : Nat) (hn : n = l.length) (hr : Bs w A l) (hl : l.length ≤ 1000000) :
    Con Tryz.prog n_bytes_Clone #[.slice A n c] w [] fun v Fs => ∃ r : Ro, r.l = l ∧ v = r.v ∧ Fs = [browF ty_uint8 r.A r.l r.c] := by
  subst hn
  refine (clone_c w A l c hr (by omega)).mono fun v Fs h => ?_
  obtain ⟨A', c', rfl, _, _, rfl⟩ := h
  exact ⟨⟨A', c', l⟩, rfl, rfl, rfl⟩
def Sec.bs (y : Sec) : List Fact := [browF ty_uint8 y.ha1.A y.ha1.l y.ha1.c, browF ty_uint8 y.server.A y.server.l y.server.c, browF ty_uint8 y.stored.A y.stored.l y.stored.c, browF ty_uint8 y.salt.A y.salt.l y.salt.c]
theorem scopyW_c (w : World) (x : SecV) (a : ASec) (hr : SRd x a w) (hz : ASz a) :
    Con Tryz.prog n_cred_Secret_copyOf #[.agg x.vs.toArray] w [] fun v Fs => ∃ y : Sec, y.a = a ∧ v = .agg y.vs.toArray ∧ Fs = y.bs := by
  have g := good_cred_Secret_copyOf w (Un [])
  refine con_of_sx (cx := cx_cred_Secret_copyOf w (Un [])) g b_cred_Secret_copyOf rfl rfl (β := Va.z) [.agg x.ss] 0 [] [oldF w] rfl rfl (old_sat rfl) ?_
  have hS : ∀ {n : Nat} {F : List Fact}, Sub (cx_cred_Secret_copyOf w (Un [])) n [⟨1, ty_cred_Secret, ti47.zero.map SL.v⟩, ⟨0, ty_cred_Secret, x.ss⟩] F [⟨0, ty_cred_Secret, x.ss⟩] [] := fun {n F} => Sub.of (List.sublist_cons_self _ _) (List.nil_sublist _)
  refine draw_rule g p_cred_Secret_copyOf_1 (by kernel_rfl) [⟨0, ty_cred_Secret, x.ss⟩] [] hS ?_
  refine call_con [] (fun β w' hs => cloneW_c w' x.A1 a.salt x.n1 x.c1 hr.n1 (Rd.old hr.r1 (hs.get 0 rfl)) hz.s) ?_
  rintro v Fs ⟨r1, e1, rfl, rfl⟩
  refine ⟨hS, ?_⟩
  refine call_con [] (fun β w' hs => cloneW_c w' x.A2 a.stored x.n2 x.c2 hr.n2 (Rd.old hr.r2 (hs.get 1 rfl)) hz.d) ?_
  rintro v Fs ⟨r2, e2, rfl, rfl⟩
  refine ⟨hS, ?_⟩
  refine call_con [] (fun β w' hs => cloneW_c w' x.A3 a.server x.n3 x.c3 hr.n3 (Rd.old hr.r3 (hs.get 2 rfl)) hz.v) ?_
  rintro v Fs ⟨r3, e3, rfl, rfl⟩
  refine ⟨hS, ?_⟩
  refine call_con [] (fun β w' hs => cloneW_c w' x.A4 a.ha1 x.n4 x.c4 hr.n4 (Rd.old hr.r4 (hs.get 3 rfl)) hz.h) ?_
  rintro v Fs ⟨r4, e4, rfl, rfl⟩
  refine ⟨hS, ?_⟩
  intro β w' hs
  refine (hs.keepB (List.nil_sublist _)).fin [0, 1, 2, 3] ⟨⟨r1, x.it, r2, r3, r4⟩, ?_, rfl, rfl⟩ rfl rfl rfl ⟨rfl, rfl, rfl, rfl, trivial⟩
  show ASec.mk r1.l x.it r2.l r3.l r4.l = a
  rw [e1, e2, e3, e4, hr.it]
def crdBs (c : Crd) : List Fact := srowF c.rA c.roles c.rc :: c.sec.bs
theorem ccopyW_c (w : World) (c : Crd) (h1 : SRd c.sec.x c.sec.a w) (h2 : Rd 1 c.rA c.roles.length (strs c.roles) w) (hz : CSz c.a) :
    Con Tryz.prog n_cred_Cred_copyOf #[.agg c.vs.toArray] w [] fun v Fs => ∃ c' : Crd, c'.a = c.a ∧ v = .agg c'.vs.toArray ∧ Fs = crdBs c' := by
  have g := good_cred_Cred_copyOf w (Un [])
  refine con_of_sx (cx := cx_cred_Cred_copyOf w (Un [])) g b_cred_Cred_copyOf rfl rfl (β := Va.z) [.agg c.ss] 0 [] [oldF w] rfl rfl (old_sat rfl) ?_
  have hS : ∀ {n : Nat} {F : List Fact}, Sub (cx_cred_Cred_copyOf w (Un [])) n [⟨1, ty_cred_Cred, ti49.zero.map SL.v⟩, ⟨0, ty_cred_Cred, c.ss⟩] F [⟨0, ty_cred_Cred, c.ss⟩] [] := fun {n F} => Sub.of (List.sublist_cons_self _ _) (List.nil_sublist _)
  refine draw_rule g p_cred_Cred_copyOf_1 (by kernel_rfl) [⟨0, ty_cred_Cred, c.ss⟩] [] hS ?_
  refine call_con [] (fun β w' hs => scopyW_c w' c.sec.x c.sec.a (h1.old (hs.get 0 rfl)) hz.sec) ?_
  rintro v Fs ⟨y, hy, rfl, rfl⟩
  refine ⟨hS, ?_⟩
  refine call_con [] (fun β w' hs => cloneS_c w' c.rA c.roles c.rc (Rd.old h2 (hs.get 4 rfl)) hz.roles) ?_
  rintro v Fs ⟨A', c', rfl, _, _, rfl⟩
  refine ⟨hS, ?_⟩
  intro β w' hs
  refine (hs.keepB (List.nil_sublist _)).fin [0, 1, 2, 3, 4] ⟨⟨0, c.tenant, c.user, y, c.gen, A', c', c.roles, c.revoked⟩, ?_, rfl, rfl⟩ rfl rfl rfl ⟨rfl, rfl, rfl, rfl, rfl, trivial⟩
  show ACrd.mk _ _ y.a _ _ _ = ACrd.mk _ _ _ _ _ _
  rw [hy]
def findWO (S : Sto) (t u : ByteArray) (v : Value) (Fs : List Fact) : Prop := match aone S.a t u with
  | none => v = .tuple #[.agg crd0.vs.toArray, .bool false] ∧ Fs = [stoF (stoR S)]
  | some a => ∃ c : Crd, c.a = a ∧ v = .tuple #[.agg c.vs.toArray, .bool true] ∧ Fs = crdBs c ++ [stoF (stoR S)]
theorem findW_c (w : World) (S : Sto) (t u : ByteArray) (hu : u.size ≤ 100000) (hz : ∀ a, aone S.a t u = some a → CSz a) (hm : Mem w [stoF S, namF]) : Con Tryz.prog n_cred_Store_Find #[ptr S.b, .string t, .string u] w [stoF S] (findWO S t u) := by
  have g := good_cred_Store_Find w (Un [stoF S])
  refine con_of_sx (cx := cx_cred_Store_Find w (Un [stoF S])) g b_cred_Store_Find rfl rfl (β := Va.z) [.c (.v (ptr S.b)), .c (.v (.string t)), .c (.v (.string u))] 0 [] [stoF S, namF] rfl rfl (hm.sat0 rfl (ownIn (Gs := [stoF S]) (fun f hf => by
    obtain rfl := List.mem_singleton.1 hf; rfl))) ?_
  refine ⟨.int .u64 S.reads, fun β w' hs => bkc (sto_bk (hs.get 0 rfl)) rfl, IntKind.u64.wrap (S.reads + 1), rfl, ?_⟩
  refine ⟨[stoF (stoR S), namF], fun β w' hs => sto_reads hs _, ?_⟩
  cases hc : S.usr t u with
  | none =>
    refine call_pu (v := .pointer none) (fun β w' hs => by
      have h := get_c w' (stoR S) t u (hs.get 0 rfl) (hs.getLt 0 rfl) hu (namF_T (hs.get 1 rfl))
      rw [stoR_usr, hc] at h
      exact h) ?_
    intro β w' hs
    refine (hs.keepB (List.nil_sublist _)).fin [0] ?_
    unfold findWO
    rw [usr_none hc]
    exact ⟨rfl, rfl⟩
  | some c =>
    obtain ⟨A, T, B, U, V, at_⟩ := usr_some hc
    refine call_pu (v := ptr c.b) (fun β w' hs => by
      have h := get_c w' (stoR S) t u (hs.get 0 rfl) (hs.getLt 0 rfl) hu (namF_T (hs.get 1 rfl))
      rw [stoR_usr, hc] at h
      exact h) ?_
    have hcp : ∀ {w'}, (stoF (stoR S)).p w' → (crdF c).p w' := fun hp => ten_crd (sto_ten hp at_.ten) at_.crd
    refine ⟨c.vs, rfl, fun β w' hs j v hv => ?_, ?_⟩
    · rw [add2]
      exact bkc (crd_bk (hcp (hs.get 0 rfl))) (by rw [Nat.zero_add]; exact hv)
    refine call_con [] (fun β w' hs => ccopyW_c w' c (crd_sec (hcp (hs.get 0 rfl))) (crd_strs (hcp (hs.get 0 rfl))) (hz _ at_.is)) ?_
    rintro v Fs ⟨c', hc', rfl, rfl⟩
    intro β w' hs
    refine (hs.keepB (List.nil_sublist _)).fin [0, 1, 2, 3, 4, 5] ?_ rfl rfl rfl ⟨rfl, rfl, rfl, rfl, rfl, rfl, trivial⟩
    unfold findWO
    rw [at_.is]
    exact ⟨c', hc', rfl, rfl⟩
end Go.Proofs.YtkobpamlmfpidaaGreatDoor.Sx

/- A tenant's users, one by one: copies, in order. -/
namespace Go.Proofs.YtkobpamlmfpidaaGreatDoor.Sx
open Go
attribute [local irreducible] Calls

theorem usL_go {us : List ACrd} : ∀ (N : List ByteArray), (∀ x ∈ N, x ∈ us.map (·.user)) → (N.filterMap (ausr us)).length = N.length ∧ ∀ (k : Nat) (x : ByteArray), N[k]? = some x → (N.filterMap (ausr us))[k]? = ausr us x
  | [], _ => ⟨rfl, fun k x h => by simp at h⟩
  | y :: r, h => by
    obtain ⟨h1, h2⟩ := usL_go r (fun x hx => h x (List.mem_cons_of_mem _ hx))
    have hy := h y List.mem_cons_self
    cases hq : ausr us y with
    | none => exact absurd hy (ausr_none.1 hq)
    | some c =>
      rw [List.filterMap_cons, hq]
      refine ⟨by simp [h1], fun k x hk => ?_⟩
      cases k with
      | zero =>
        obtain rfl : y = x := by simpa using hk
        simp [hq]
      | succ k =>
        have hk' : r[k]? = some x := by simpa using hk
        simpa using h2 k x hk'
def insC (L : List ACrd) (pre : List ACrd) (x : ACrd) (args : Array Value) (X : Fact) : Prop := ∃ c : Crd, c.a = x ∧ args = #[.agg c.vs.toArray] ∧ X = csF [c] ∧ L[pre.length]? = some x
def usrEnd (S : Sto) (L : List ACrd) (J Jx : List ACrd → Fact → Prop) (Fs : List Fact) : Prop :=
  ∃ f Fs', Fs = f :: Fs' ∧ ((∃ xs, J xs f ∧ xs = L ∧ Fs' = [stoF S]) ∨ (∃ pre, Jx pre f ∧ Fs' = [stoF S]))
theorem usr_it (l : Nat) (w : World) (bx bt : Nat) (S : Sto) (t : ByteArray) (f0 R : Fact) (J Jx : List ACrd → Fact → Prop) {A B : List Ten} {T : Ten} (hT : S.ts = A ++ T :: B) (htO : tenO S.ts t = some T) (hok : KeysOk T.m) (hL : T.us.length ≤ 1000) (hz : ∀ c ∈ T.us, CSz c.a)
    (hJ0 : J [] f0) (hJo : ∀ pre f, J pre f → f.own = true) (hRo : R.own = false) (hY : Yc Tryz.prog l J Jx R (insC (usL (T.us.map Crd.a))))
    (hm : Mem w (f0 :: R :: [bkF bx ty_ptr_cred_Store [ptr S.b], bkF bt ty_string [.string t], stoF S])) :
    Con Tryz.prog n_cred_Store_Users_1 #[.func (.yield l) #[] #[], .pointer (some ⟨bx, 0, none⟩), .pointer (some ⟨bt, 0, none⟩)] w [f0, bkF bx ty_ptr_cred_Store [ptr S.b], bkF bt ty_string [.string t], stoF S]
      (fun _ Fs => usrEnd S (usL (T.us.map Crd.a)) J Jx Fs) := by
  have g := good_cred_Store_Users_1 w (Un [f0, bkF bx ty_ptr_cred_Store [ptr S.b], bkF bt ty_string [.string t], stoF S]) [bx, bt]
  have hs0 : Sat (cx_cred_Store_Users_1 w (Un [f0, bkF bx ty_ptr_cred_Store [ptr S.b], bkF bt ty_string [.string t], stoF S]) [bx, bt]) (Va.of fun i => [bx, bt].getD i 0) 2 [] (f0 :: R :: [bkF bx ty_ptr_cred_Store [ptr S.b], bkF bt ty_string [.string t], stoF S]) w := by
    refine hm.sat rfl (fun f hf ho k hk => ?_) ⟨Nat.le_refl 2, fun i _ => rfl⟩
    simp only [List.mem_cons, List.not_mem_nil, or_false] at hf
    rcases hf with rfl | rfl | rfl | rfl | rfl
    · exact ⟨_, by simp, hk⟩
    · rw [hRo] at ho; cases ho
    · exact ⟨bkF bx ty_ptr_cred_Store [ptr S.b], by simp, hk⟩
    · exact ⟨bkF bt ty_string [.string t], by simp, hk⟩
    · exact ⟨stoF S, by simp, hk⟩
  have hs1 := (hs0.toBk 3 rfl 1 (by decide) rfl).toBk 2 rfl 0 (by decide) rfl
  refine con_of_sx (cx := cx_cred_Store_Users_1 w (Un [f0, bkF bx ty_ptr_cred_Store [ptr S.b], bkF bt ty_string [.string t], stoF S]) [bx, bt]) g b_cred_Store_Users_1 rfl rfl (β := Va.of fun i => [bx, bt].getD i 0) [.c (.v (.func (.yield l) #[] #[])), .c (.p 0 0), .c (.p 1 0)] 2 _ _ rfl rfl hs1 ?_
  refine call_pu (v := .map (some T.b)) (fun β w' hs => by
    have h := users_c w' S t (hs.get 2 rfl) (fun k hk => hs.flt _ (List.mem_of_getElem? (i := 2) rfl) k hk)
    rw [htO] at h
    exact h) ?_
  refine call_con [] (fun β w' hs => keysU_c w' (some T.b)) ?_
  rintro v Fs ⟨B', rfl, rfl⟩
  refine call_con [] (fun β w' hs => sortedU_c w' B' T.b T.m hok (by rw [Ten.m, List.length_map]; omega) ((hs.mem.take (js := [0, 3]) rfl).part2 rfl (ten_map (sto_ten (hs.get 3 rfl) hT)) (sto_tenD hT))) ?_
  rintro v Fs ⟨A', c, rfl, hA0, rfl⟩
  obtain ⟨N, hN⟩ : ∃ N, sortK (T.m.map (·.1)) = N := ⟨_, rfl⟩
  have hmu : T.m.map (·.1) = (T.us.map Crd.a).map (·.user) := by rw [Ten.m, List.map_map, List.map_map]; rfl
  have hU : usL (T.us.map Crd.a) = N.filterMap (ausr (T.us.map Crd.a)) := by unfold usL; rw [← hmu, hN]
  have hNl : N.length ≤ 1000 := by rw [← hN, sortK_len, Ten.m, List.length_map, List.length_map]; exact hL
  obtain ⟨hUl, hUa⟩ := usL_go (us := T.us.map Crd.a) N (fun x hx => by
    rw [← hmu]
    rw [← hN] at hx
    exact (sortK_perm _).mem_iff.1 hx)
  rw [← hU] at hUl hUa
  rw [hN] at hA0 ⊢
  generalize usL (T.us.map Crd.a) = L at *
  refine loop_rule (ι := List ACrd × Fact) 2 (fun i => [(0, .c (.v (.func (.yield l) #[] #[]))), (4, .c (.v (.map (some T.b)))), (13, .c (.v (.slice A' N.length c))), (14, .c (.v (.int .i64 (N.length : Int)))), (15, .c (.v (.int .i64 (i.1.length : Int))))]) (fun _ => []) (fun i => [trowF A' N c, i.2, R, stoF S])
    (fun i => J i.1 i.2 ∧ i.1 = L.take i.1.length ∧ i.1.length ≤ N.length) (fun i => N.length - i.1.length) ([], f0) ⟨hJ0, rfl, Nat.zero_le _⟩ (Ent.mk' ⟨rfl, rfl, rfl, rfl, rfl, trivial⟩ rfl (fun β w' hs => (hs.keepB (List.nil_sublist _)).perm [0, 2, 3, 4])) g ?_
  rintro ⟨pre, f⟩ ⟨hJ, hpre, hi⟩
  simp only at hJ hpre hi
  have hfo := hJo _ _ hJ
  simp only
  refine BIf.dec (fun hlt => ?_) (fun hge => ?_)
  · have hlt0 : (pre.length : Int) < N.length := hlt
    have hkl : pre.length < N.length := by omega
    obtain ⟨x, hx, hxm⟩ := at_lt hkl
    obtain ⟨ad, hAd⟩ := hA0 (by omega)
    refine ⟨ad, pre.length, hAd, rfl, hkl, .string x, fun β w' hs => ?_, ?_⟩
    · have h := row_rd (hs.get 0 rfl)
      rw [hAd] at h
      exact Rd.cell1 h (by simp [hx])
    have hLx := hUa _ _ hx
    have hxu : x ∈ T.m.map (·.1) := (sortK_perm _).mem_iff.1 (by rw [hN]; exact hxm)
    rcases look_crd x T.us with ⟨U, d, V, eU, q0, q1, q2, q3, _⟩ | ⟨q1, _, _⟩
    rotate_left
    · exact absurd q1 (mlook_of_mem hxu)
    rw [q3] at hLx
    have hcp : ∀ {w'}, (stoF S).p w' → (crdF d).p w' := fun hp => ten_crd (sto_ten hp hT) eU
    refine ⟨.pointer none, fun w => zero_ptrC w, T.m, mlook T.m x, fun β w' hs => ten_map (sto_ten (hs.get 3 rfl) hT), rfl, ?_⟩
    rw [show mlook T.m x = _ from q2]
    refine ⟨d.vs, rfl, fun β w' hs j v hv => by rw [add2]; exact bkc (crd_bk (hcp (hs.get 3 rfl))) (by rw [Nat.zero_add]; exact hv), ?_⟩
    refine call_conS [] (fun β w' hs => ccopyOf_c w' d (crd_sec (hcp (hs.get 3 rfl))) (crd_strs (hcp (hs.get 3 rfl))) (hz d (by rw [eU]; simp))) ?_
    rintro v Fs ⟨d', hd', rfl, rfl⟩
    refine ⟨_, [csF [d'], trowF A' N c, f, R, stoF S], fun β w' hs => hs.toCs [0, 1, 2, 3, 4] rfl, ?_⟩
    refine yield_own (X := csF [d']) (x := d.a) hY 2 3 0 rfl hJ hfo rfl rfl rfl (by decide) (by decide) (by decide) (fun β => ⟨d', hd', rfl, rfl, hLx⟩) ?_ ?_
    · intro f2 hfo2 hJ2
      have e : (pre ++ [d.a]).length = pre.length + 1 := by rw [List.length_append]; rfl
      refine ⟨((pre.length + 1 : Nat) : Int), by rw [wrap_i64 (by omega) (by omega)]; rfl, ?_⟩
      refine ⟨(pre ++ [d.a], f2), ⟨hJ2, ?_, by show (pre ++ [d.a]).length ≤ _; omega⟩, by show N.length - (pre ++ [d.a]).length < N.length - pre.length; omega, ?_⟩
      · show pre ++ [d.a] = L.take (pre ++ [d.a]).length
        rw [e, List.take_add_one, hLx, ← hpre]
        rfl
      · simp only [e]
        exact Ent.mk' ⟨rfl, rfl, rfl, rfl, rfl, trivial⟩ rfl (fun β w' hs => (hs.perm [1, 0, 2, 3]).lower)
    · intro f2 hfo2 hJ2 β w' hs
      exact (hs.keepB (List.nil_sublist _)).fin [0, 3] ⟨f2, _, rfl, .inr ⟨_, hJ2, rfl⟩⟩ rfl rfl rfl ⟨hfo2, rfl, trivial⟩
  · have hge0 : ¬ (pre.length : Int) < N.length := hge
    intro β w' hs
    exact (hs.keepB (List.nil_sublist _)).fin [1, 3] ⟨f, _, rfl, .inl ⟨pre, hJ, by rw [hpre, List.take_of_length_le (by omega)], rfl⟩⟩ rfl rfl rfl ⟨hfo, rfl, trivial⟩
end Go.Proofs.YtkobpamlmfpidaaGreatDoor.Sx

/- A tenant's users, collected. -/
namespace Go.Proofs.YtkobpamlmfpidaaGreatDoor.Sx
open Go
attribute [local irreducible] Calls

abbrev crowP (A : Option Addr) (cs : List Crd) (c : Nat) : Fact := rowF ty_cred_Cred 10 (.slice A cs.length c) cs.length (cs.flatMap Crd.vs)
structure ColC where
  A : Option Addr
  c : Nat
  cs : List Crd
theorem appendC_c (w : World) (bx bt : Nat) (S : Sto) (t : ByteArray) {A B : List Ten} {T : Ten} (hT : S.ts = A ++ T :: B) (htO : tenO S.ts t = some T) (hok : KeysOk T.m) (hL : T.us.length ≤ 1000) (hz : ∀ c ∈ T.us, CSz c.a) (hm : Mem w [bkF bx ty_ptr_cred_Store [ptr S.b], bkF bt ty_string [.string t], stoF S]) :
    Con Tryz.prog n_slices_AppendSeq_cred_Cred_cred_Cred #[.slice none 0 0, .func (.func n_cred_Store_Users_1) #[] #[.pointer (some ⟨bx, 0, none⟩), .pointer (some ⟨bt, 0, none⟩)]] w [bkF bx ty_ptr_cred_Store [ptr S.b], bkF bt ty_string [.string t], stoF S]
      fun v Fs => ∃ A c cs, v = .slice A cs.length c ∧ cs.map Crd.a = usL (T.us.map Crd.a) ∧ (0 < cs.length → ∃ ad, A = some ad) ∧ Fs = [crowP A cs c, csF cs, stoF S] := by
  have g := good_slices_AppendSeq_cred_Cred_cred_Cred w (Un [bkF bx ty_ptr_cred_Store [ptr S.b], bkF bt ty_string [.string t], stoF S])
  have hml := maxLen_eq
  have hs0 : Sat (cx_slices_AppendSeq_cred_Cred_cred_Cred w (Un [bkF bx ty_ptr_cred_Store [ptr S.b], bkF bt ty_string [.string t], stoF S])) Va.z 0 [] [bkF bx ty_ptr_cred_Store [ptr S.b], bkF bt ty_string [.string t], stoF S] w := hm.sat0 rfl (fun f hf _ k hk => ⟨f, hf, hk⟩)
  refine con_of_sx (cx := cx_slices_AppendSeq_cred_Cred_cred_Cred w (Un [bkF bx ty_ptr_cred_Store [ptr S.b], bkF bt ty_string [.string t], stoF S])) g b_slices_AppendSeq_cred_Cred_cred_Cred rfl rfl (β := Va.z) [.c (.v (.slice none 0 0)), .c (.v (.func (.func n_cred_Store_Users_1) #[] #[.pointer (some ⟨bx, 0, none⟩), .pointer (some ⟨bt, 0, none⟩)]))] 0 [] _ rfl rfl hs0 ?_
  have hUl : (usL (T.us.map Crd.a)).length ≤ 1000 := by
    unfold usL
    refine Nat.le_trans (List.length_filterMap_le _ _) ?_
    rw [sortK_len, List.length_map, List.length_map]
    exact hL
  obtain ⟨L, hLd⟩ : ∃ L, usL (T.us.map Crd.a) = L := ⟨_, rfl⟩
  rw [hLd] at hUl ⊢
  refine range_rule (α := ACrd) (ι := ColC) (κ := Unit) g rfl (cv := [.pointer (some ⟨bx, 0, none⟩), .pointer (some ⟨bt, 0, none⟩)]) rfl (by kernel_rfl) 1 (Nat.le_refl 1)
    (fun pre i => i.cs.map Crd.a = pre ∧ pre = L.take pre.length ∧ pre.length ≤ L.length ∧ (0 < i.cs.length → ∃ ad, i.A = some ad)) (fun i => [⟨0, ty_sl_cred_Cred, [.v (.slice i.A i.cs.length i.c)]⟩]) (fun i => [crowP i.A i.cs i.c, csF i.cs]) (fun i => ⟨rfl, rfl, trivial⟩)
    (fun _ _ _ => False) (fun _ => []) (fun _ => []) (fun _ => trivial)
    [bkF bx ty_ptr_cred_Store [ptr S.b], bkF bt ty_string [.string t], stoF S] [] [] ⟨rfl, rfl, rfl, trivial⟩ (fun g h => by cases h) ⟨none, 0, []⟩ ⟨rfl, rfl, Nat.zero_le _, fun h => absurd h (by decide)⟩
    (fun β w hs => ⟨β, Agr.refl _ _, (hs.nilPo.nilRow ty_cred_Cred 10).perm [2, 3, 4, 0, 1]⟩) (insC L)
    (fun xs Fs' => xs = L ∧ Fs' = [stoF S]) (fun _ Fs' => Fs' = [stoF S])
    (fun l w f0 R J Jx hJ0 hJo hRo hY hm => (usr_it l w bx bt S t f0 R J Jx hT htO hok hL hz hJ0 hJo hRo (by rw [hLd]; exact hY) hm).mono fun _ Fs h => by rw [hLd] at h; exact h) ?_ ?_ ?_
  · rintro ⟨A, c, cs⟩ pre x args X W S' lb bs pn pn' hbs ⟨rfl, hpre, hlen, _⟩ ⟨d, rfl, rfl, rfl, hx⟩
    simp only at hpre hlen
    have hkl : (cs.map Crd.a).length < L.length := (List.getElem?_eq_some_iff.1 hx).1
    rw [List.length_map] at hkl
    refine ⟨_, rfl, ?_⟩
    intro b1
    have e1 : (cs ++ [d]).length = cs.length + 1 := by rw [List.length_append]; rfl
    refine ⟨2, cs.length, (cs ++ [d]).length, cs.flatMap Crd.vs, d.vs, (cs ++ [d]).flatMap Crd.vs, rfl, fun β w hs => row_rd (hs.get 0 rfl), crd_one d, by rw [e1], by simp, by omega, by show (cs ++ [d]).length * 176 ≤ _; omega, ?_⟩
    intro A' c' h1 h2 h3
    refine ⟨⟨A', c', cs ++ [d]⟩, ⟨by simp, ?_, by simp; omega, fun _ => ?_⟩, Ent.mk' trivial rfl (fun β w hs => ?_)⟩
    · have e2 : (cs.map Crd.a ++ [d.a]).length = (cs.map Crd.a).length + 1 := by rw [List.length_append]; rfl
      rw [e2, List.take_add_one, hx, ← hpre]
      rfl
    · cases A' with
      | none => exact absurd (h3 rfl).2 (by decide)
      | some ad => exact ⟨ad, rfl⟩
    · have h := ((hs.keepB (List.sublist_cons_self _ _)).joinPo 3 1 rfl rfl).perm [2, 0]
      rw [csF_app] at h
      exact h.lower
  · rintro xs ⟨A, c, cs⟩ Fs ⟨hcs, _, _, hA⟩ ⟨rfl, rfl⟩
    simp only at hcs hA
    intro β w' hs
    exact (hs.keepB (List.nil_sublist _)).fin [1, 2, 0] ⟨A, c, cs, rfl, hcs, hA, rfl⟩ rfl rfl rfl ⟨rfl, rfl, rfl, trivial⟩
  · rintro e pre j Fs ⟨⟩
theorem collectC_c (w : World) (bx bt : Nat) (S : Sto) (t : ByteArray) {A B : List Ten} {T : Ten} (hT : S.ts = A ++ T :: B) (htO : tenO S.ts t = some T) (hok : KeysOk T.m) (hL : T.us.length ≤ 1000) (hz : ∀ c ∈ T.us, CSz c.a) (hm : Mem w [bkF bx ty_ptr_cred_Store [ptr S.b], bkF bt ty_string [.string t], stoF S]) :
    Con Tryz.prog n_slices_Collect_cred_Cred #[.func (.func n_cred_Store_Users_1) #[] #[.pointer (some ⟨bx, 0, none⟩), .pointer (some ⟨bt, 0, none⟩)]] w [bkF bx ty_ptr_cred_Store [ptr S.b], bkF bt ty_string [.string t], stoF S]
      fun v Fs => ∃ A c cs, v = .slice A cs.length c ∧ cs.map Crd.a = usL (T.us.map Crd.a) ∧ (0 < cs.length → ∃ ad, A = some ad) ∧ Fs = [crowP A cs c, csF cs, stoF S] := by
  have g := good_slices_Collect_cred_Cred w (Un [bkF bx ty_ptr_cred_Store [ptr S.b], bkF bt ty_string [.string t], stoF S])
  have hs0 : Sat (cx_slices_Collect_cred_Cred w (Un [bkF bx ty_ptr_cred_Store [ptr S.b], bkF bt ty_string [.string t], stoF S])) Va.z 0 [] [bkF bx ty_ptr_cred_Store [ptr S.b], bkF bt ty_string [.string t], stoF S] w := hm.sat0 rfl (fun f hf _ k hk => ⟨f, hf, hk⟩)
  refine con_of_sx (cx := cx_slices_Collect_cred_Cred w (Un [bkF bx ty_ptr_cred_Store [ptr S.b], bkF bt ty_string [.string t], stoF S])) g b_slices_Collect_cred_Cred rfl rfl (β := Va.z) [.c (.v (.func (.func n_cred_Store_Users_1) #[] #[.pointer (some ⟨bx, 0, none⟩), .pointer (some ⟨bt, 0, none⟩)]))] 0 [] _ rfl rfl hs0 ?_
  refine call_con [0, 1, 2] (hown := ⟨rfl, rfl, rfl, trivial⟩) (fun β w' hs => appendC_c w' bx bt S t hT htO hok hL hz (hs.mem.take (js := [0, 1, 2]) rfl)) ?_
  rintro v Fs ⟨A, c, cs, rfl, hcs, hA, rfl⟩
  intro β w' hs
  exact hs.fin [0, 1, 2] ⟨A, c, cs, rfl, hcs, hA, rfl⟩ rfl rfl rfl ⟨rfl, rfl, rfl, trivial⟩
end Go.Proofs.YtkobpamlmfpidaaGreatDoor.Sx

/- All users of a store, as the document has them. -/
namespace Go.Proofs.YtkobpamlmfpidaaGreatDoor.Sx
open Go
attribute [local irreducible] Calls

/-- A credential's agg is handed through. -/
theorem secret14_c (w : World) (y : Sec) : Pu Tryz.prog n_ostiarylaw14_secret #[.agg y.vs.toArray] w (.agg y.vs.toArray) := by
  have g := good_ostiarylaw14_secret w (Un [])
  refine con_of_sx (cx := cx_ostiarylaw14_secret w (Un [])) g b_ostiarylaw14_secret rfl rfl (β := Va.z) [.agg y.x.ss] 0 [] [] rfl rfl (Sat.start rfl) ?_
  intro β w' hs
  exact (hs.keepB (List.nil_sublist _)).fin [] ⟨rfl, rfl⟩
set_option maxHeartbeats 1000000 in
theorem back14_c (w : World) (c : Crd) : Pu Tryz.prog n_ostiarylaw14_back #[.agg c.vs.toArray] w (.agg c.vs.toArray) := by
  have g := good_ostiarylaw14_back w (Un [])
  refine con_of_sx (cx := cx_ostiarylaw14_back w (Un [])) g b_ostiarylaw14_back rfl rfl (β := Va.z) [.agg c.ss] 0 [] [] rfl rfl (Sat.start rfl) ?_
  refine draw_rule g p_ostiarylaw14_back_1 (by kernel_rfl) [⟨0, ty_cred_Cred, c.ss⟩] [] (Sub.of (List.sublist_cons_self _ _) (List.Sublist.refl _)) ?_
  refine call_pu (fun β w' hs => secret14_c w' c.sec) ?_
  refine ⟨Sub.of (List.sublist_cons_self _ _) (List.Sublist.refl _), ?_⟩
  refine ⟨fun β w hs => hs.keepB (List.sublist_cons_self _ _), ?_⟩
  intro β w' hs
  exact (hs.keepB (List.nil_sublist _)).fin [] ⟨rfl, rfl⟩
structure StoOk (S : Sto) : Prop where
  ok : KeysOk S.ml
  tn : S.ts.length ≤ 1000
  us : ∀ T ∈ S.ts, KeysOk T.m ∧ T.us.length ≤ 1000 ∧ ∀ c ∈ T.us, CSz c.a
  all : (allU S.a.ts).length ≤ 1000
structure UsI where
  i : Nat
  A : Option Addr
  c : Nat
  cs : List Crd
def usT (S : Sto) (t : ByteArray) : List ACrd := usL ((aten S.a.ts t).getD [])
theorem usT_len {S : Sto} {N : List ByteArray} {i : Nat} {x : ByteArray} (hx : N[i]? = some x) : ((N.take (i + 1)).flatMap (usT S)) = (N.take i).flatMap (usT S) ++ usT S x := by
  rw [List.take_add_one, hx, List.flatMap_append]
  simp
theorem flat_take_le {α β : Type} (f : α → List β) (l : List α) (i : Nat) : ((l.take i).flatMap f).length ≤ (l.flatMap f).length := by
  conv => rhs; rw [← List.take_append_drop i l, List.flatMap_append, List.length_append]
  exact Nat.le_add_right _ _
theorem usersA_c (w : World) (S : Sto) (hS : StoOk S) (hm : Mem w [stoF S]) :
    Con Tryz.prog n_ostiarylaw14_users #[ptr S.b] w [stoF S] fun v Fs => ∃ A c cs, v = .slice A cs.length c ∧ cs.map Crd.a = allU S.a.ts ∧ (0 < cs.length → ∃ ad, A = some ad) ∧ Fs = [crowF A cs c, csF cs, stoF S] := by
  have g := good_ostiarylaw14_users w (Un [stoF S])
  have hml := maxLen_eq
  have hnl := S.names_len
  have htn := hS.tn
  have hs0 : Sat (cx_ostiarylaw14_users w (Un [stoF S])) Va.z 0 [] [stoF S] w := hm.sat0 rfl (fun f hf _ k hk => ⟨f, hf, hk⟩)
  refine con_of_sx (cx := cx_ostiarylaw14_users w (Un [stoF S])) g b_ostiarylaw14_users rfl rfl (β := Va.z) [.c (.v (ptr S.b))] 0 [] _ rfl rfl hs0 ?_
  refine call_con [] (fun β w' hs => tenants_c w' S) ?_
  rintro v Fs ⟨bx, rfl, rfl⟩
  refine call_con [0, 1] (fun β w' hs => collectT_c w' bx S hS.ok hS.tn (hs.mem.take (js := [0, 1]) rfl)) ?_
  rintro v Fs ⟨A, c, rfl, hA0, rfl⟩
  have hmem : ∀ x ∈ S.names, ∃ A' T B', S.ts = A' ++ T :: B' ∧ tenO S.ts x = some T ∧ usT S x = usL (T.us.map Crd.a) ∧ T ∈ S.ts := by
    intro x hx
    have h1 := mlook_of_mem (mem_sortK hx)
    rcases look_ten x S.ts with ⟨A', T, B', e, h0, _, _, h3, _⟩ | ⟨h2, _, _⟩
    · refine ⟨A', T, B', e, h0, ?_, by rw [e]; simp⟩
      unfold usT
      rw [show aten S.a.ts x = _ from h3]
      rfl
    · exact absurd h2 h1
  have hall : allU S.a.ts = S.names.flatMap (usT S) := by
    unfold allU Sto.names
    have : S.a.ts.map (·.1) = S.ml.map (·.1) := by
      show (S.ts.map Ten.a).map _ = _
      rw [Sto.ml, List.map_map, List.map_map]
      rfl
    rw [this]
    rfl
  have hallL := hS.all
  rw [hall] at hallL ⊢
  generalize S.names = N at *
  have htk := fun i => Nat.le_trans (flat_take_le (usT S) N i) hallL
  refine loop_rule (ι := UsI) 0 (fun i => [(0, .c (.v (ptr S.b))), (3, .c (.v (.slice i.A i.cs.length i.c))), (10, .c (.v (.slice A N.length c))), (11, .c (.v (.int .i64 (N.length : Int)))), (12, .c (.v (.int .i64 (i.i : Int))))]) (fun _ => []) (fun i => [crowF i.A i.cs i.c, csF i.cs, trowF A N c, stoF S])
    (fun i => i.i ≤ N.length ∧ i.cs.map Crd.a = (N.take i.i).flatMap (usT S) ∧ (0 < i.cs.length → ∃ ad, i.A = some ad)) (fun i => N.length - i.i) ⟨0, none, 0, []⟩ ⟨Nat.zero_le _, rfl, fun h => absurd h (by decide)⟩ (Ent.mk' ⟨rfl, rfl, rfl, rfl, rfl, trivial⟩ rfl (fun β w' hs => hs.nilPo.nilRow ty_ostiaryref14_Cred 10)) g ?_
  rintro ⟨i, A1, c1, cs⟩ ⟨hi, hcs, hA1⟩
  simp only at hi hcs hA1
  refine BIf.dec (fun hlt => ?_) (fun hge => ?_)
  · have hlt0 : (i : Int) < N.length := hlt
    have hkl : i < N.length := by omega
    obtain ⟨x, hx, hxm⟩ := at_lt hkl
    obtain ⟨A', T, B', e, h0, h1, hTm⟩ := hmem x hxm
    obtain ⟨hk1, hk2, hk3⟩ := hS.us T hTm
    obtain ⟨ad, hAd⟩ := hA0 (by omega)
    refine ⟨ad, i, hAd, rfl, hkl, .string x, fun β w' hs => ?_, ?_⟩
    · have h := row_rd (hs.get 2 rfl)
      rw [hAd] at h
      exact Rd.cell1 h (by simp [hx])
    refine call_con [] (fun β w' hs => usersF_c w' S x) ?_
    rintro v Fs ⟨ux, ut, rfl, rfl⟩
    refine call_con [0, 1, 5] (hown := ⟨rfl, rfl, rfl, trivial⟩) (fun β w' hs => collectC_c w' ux ut S x e h0 hk1 hk2 hk3 (hs.mem.take (js := [0, 1, 5]) rfl)) ?_
    rintro v Fs ⟨A2, c2, ds, rfl, hds, hA2, rfl⟩
    have hds' : ds.map Crd.a = usT S x := hds.trans h1.symm
    have hnx := usT_len (S := S) hx
    have hlen : cs.length + ds.length ≤ 1000 := by
      have q := htk (i + 1)
      rw [hnx, ← hcs, ← hds', List.length_append, List.length_map, List.length_map] at q
      exact q
    refine loop_rule (ι := UsI) 0 (fun j => [(0, .c (.v (ptr S.b))), (3, .c (.v (.slice j.A (cs ++ ds.take j.i).length j.c))), (10, .c (.v (.slice A N.length c))), (11, .c (.v (.int .i64 (N.length : Int)))), (12, .c (.v (.int .i64 (i : Int)))), (19, .c (.v (.slice A2 ds.length c2))), (20, .c (.v (.int .i64 (ds.length : Int)))), (21, .c (.v (.int .i64 (j.i : Int))))]) (fun _ => []) (fun j => [crowF j.A (cs ++ ds.take j.i) j.c, csF cs, csF ds, crowP A2 ds c2, trowF A N c, stoF S])
      (fun j => j.i ≤ ds.length ∧ (0 < (cs ++ ds.take j.i).length → ∃ ad, j.A = some ad)) (fun j => ds.length - j.i) ⟨0, A1, c1, []⟩ ⟨Nat.zero_le _, by simpa using hA1⟩ (Ent.mk' ⟨rfl, by simp only [List.take_zero, List.append_nil]; rfl, rfl, rfl, rfl, rfl, rfl, rfl, trivial⟩ rfl (fun β w' hs => by simp only [List.take_zero, List.append_nil]; exact hs.perm [3, 4, 1, 0, 5, 2])) g ?_
    rintro ⟨j, A3, c3, _⟩ ⟨hj, hA3⟩
    simp only at hj hA3
    refine BIf.dec (fun hlt2 => ?_) (fun hge2 => ?_)
    · have hlt20 : (j : Int) < ds.length := hlt2
      have hjl : j < ds.length := by omega
      obtain ⟨d, hd, hdm⟩ := at_lt hjl
      obtain ⟨ae, hAe⟩ := hA2 (by omega)
      refine ⟨ae, j, hAe, rfl, hjl, d.vs, rfl, fun β w' hs => crd_at (row_rd (hs.get 3 rfl)) hAe hd, ?_⟩
      refine call_pu (fun β w' hs => back14_c w' d) ?_
      intro b1
      have hnx2 : ds.take (j + 1) = ds.take j ++ [d] := by rw [List.take_add_one, hd]; rfl
      have hlj : (cs ++ ds.take (j + 1)).length = (cs ++ ds.take j).length + 1 := by rw [hnx2, ← List.append_assoc, List.length_append]; rfl
      have hll : (cs ++ ds.take j).length ≤ 1000 := by rw [List.length_append, List.length_take]; omega
      refine ⟨1, (cs ++ ds.take j).length, (cs ++ ds.take (j + 1)).length, (cs ++ ds.take j).flatMap Crd.vs, d.vs, (cs ++ ds.take (j + 1)).flatMap Crd.vs, rfl, fun β w hs => row_rd (hs.get 0 rfl), crd_one d, by rw [hlj], by rw [hnx2]; simp, by omega, by show (cs ++ ds.take (j + 1)).length * 176 ≤ _; omega, ?_⟩
      intro A' c' q1 q2 q3
      refine ⟨((j + 1 : Nat) : Int), by rw [wrap_i64 (by omega) (by omega)]; rfl, ?_⟩
      refine ⟨⟨j + 1, A', c', []⟩, ⟨hjl, fun _ => ?_⟩, by show ds.length - (j + 1) < ds.length - j; omega, Ent.mk' ⟨rfl, rfl, rfl, rfl, rfl, rfl, rfl, rfl, trivial⟩ rfl (fun β w' hs => ((hs.keepB (List.nil_sublist _)).perm [1, 2, 3, 4, 5, 6]).lower)⟩
      cases A' with
      | none => exact absurd (q3 rfl).2 (by decide)
      | some ad => exact ⟨ad, rfl⟩
    · have hge20 : ¬ (j : Int) < ds.length := hge2
      have hfin : ds.take j = ds := List.take_of_length_le (by omega)
      rw [hfin] at hA3 ⊢
      refine ⟨((i + 1 : Nat) : Int), by rw [wrap_i64 (by omega) (by omega)]; rfl, ?_⟩
      refine ⟨⟨i + 1, A3, c3, cs ++ ds⟩, ⟨hkl, by rw [List.map_append, hcs, hds', hnx], hA3⟩, by show N.length - (i + 1) < N.length - i; omega, Ent.mk' ⟨rfl, rfl, rfl, rfl, rfl, trivial⟩ rfl (fun β w' hs => by
        have h := (hs.joinPo 1 2 rfl rfl).perm [1, 0, 3, 4]
        rw [csF_app] at h
        exact h)⟩
  · have hge0 : ¬ (i : Int) < N.length := hge
    intro β w' hs
    exact hs.fin [0, 1, 3] ⟨A1, c1, cs, rfl, by rw [hcs, List.take_of_length_le (by omega)], hA1, rfl⟩ rfl rfl rfl ⟨rfl, rfl, rfl, trivial⟩
end Go.Proofs.YtkobpamlmfpidaaGreatDoor.Sx

/- Nobody's store: no tenants. -/
namespace Go.Proofs.YtkobpamlmfpidaaGreatDoor.Sx
open Go
attribute [local irreducible] Calls

end Go.Proofs.YtkobpamlmfpidaaGreatDoor.Sx

/- The program's store: nobody's. -/
namespace Go.Proofs.YtkobpamlmfpidaaGreatDoor.Sx
open Go
attribute [local irreducible] Calls

theorem users0S_c (w : World) (t : ByteArray) : Pu Tryz.prog n_cred_Store_users #[.pointer none, .string t] w (.map none) := by
  refine con_of_sx (cx := cx_cred_Store_users w (Un [])) (good_cred_Store_users w (Un [])) b_cred_Store_users rfl rfl (β := Va.z) [.c (.v (.pointer none)), .c (.v (.string t))] 0 [] [] rfl rfl (Sat.start rfl) ?_
  intro β w' hs
  exact (hs.keepB (List.nil_sublist _)).fin [] ⟨rfl, rfl⟩
theorem addTenant0_c (w : World) (t : ByteArray) : Pu Tryz.prog n_cred_Store_AddTenant #[.pointer none, .string t] w (.int .i64 6) := by
  refine con_of_sx (cx := cx_cred_Store_AddTenant w (Un [])) (good_cred_Store_AddTenant w (Un [])) b_cred_Store_AddTenant rfl rfl (β := Va.z) [.c (.v (.pointer none)), .c (.v (.string t))] 0 [] [] rfl rfl (Sat.start rfl) ?_
  intro β w' hs
  exact (hs.keepB (List.nil_sublist _)).fin [] ⟨rfl, rfl⟩
theorem dropTenant0_c (w : World) (t : ByteArray) : Pu Tryz.prog n_cred_Store_DropTenant #[.pointer none, .string t] w (.int .i64 6) := by
  refine con_of_sx (cx := cx_cred_Store_DropTenant w (Un [])) (good_cred_Store_DropTenant w (Un [])) b_cred_Store_DropTenant rfl rfl (β := Va.z) [.c (.v (.pointer none)), .c (.v (.string t))] 0 [] [] rfl rfl (Sat.start rfl) ?_
  refine call_pu (fun β w' hs => users0S_c w' t) ?_
  intro β w' hs
  exact (hs.keepB (List.nil_sublist _)).fin [] ⟨rfl, rfl⟩
theorem add0_c (w : World) (t u : ByteArray) (y : Sec) : Pu Tryz.prog n_cred_Store_Add #[.pointer none, .string t, .string u, .agg y.vs.toArray] w (.int .i64 6) := by
  refine con_of_sx (cx := cx_cred_Store_Add w (Un [])) (good_cred_Store_Add w (Un [])) b_cred_Store_Add rfl rfl (β := Va.z) [.c (.v (.pointer none)), .c (.v (.string t)), .c (.v (.string u)), .agg y.x.ss] 0 [] [] rfl rfl (Sat.start rfl) ?_
  refine call_pu (fun β w' hs => users0S_c w' t) ?_
  intro β w' hs
  exact (hs.keepB (List.nil_sublist _)).fin [] ⟨rfl, rfl⟩
theorem raise0_c (w : World) (n : Int) : Pu Tryz.prog n_cred_Store_Raise #[.pointer none, .int .u64 n] w (.int .i64 6) := by
  refine con_of_sx (cx := cx_cred_Store_Raise w (Un [])) (good_cred_Store_Raise w (Un [])) b_cred_Store_Raise rfl rfl (β := Va.z) [.c (.v (.pointer none)), .c (.v (.int .u64 n))] 0 [] [] rfl rfl (Sat.start rfl) ?_
  intro β w' hs
  exact (hs.keepB (List.nil_sublist _)).fin [] ⟨rfl, rfl⟩
theorem load0_c (w : World) (c : Crd) : Pu Tryz.prog n_cred_Store_Load #[.pointer none, .agg c.vs.toArray] w (.int .i64 6) := by
  refine con_of_sx (cx := cx_cred_Store_Load w (Un [])) (good_cred_Store_Load w (Un [])) b_cred_Store_Load rfl rfl (β := Va.z) [.c (.v (.pointer none)), .agg c.ss] 0 [] [] rfl rfl (Sat.start rfl) ?_
  intro β w' hs
  exact (hs.keepB (List.nil_sublist _)).fin [] ⟨rfl, rfl⟩
end Go.Proofs.YtkobpamlmfpidaaGreatDoor.Sx

/- The program's store: nobody's, where a name is asked for. -/
namespace Go.Proofs.YtkobpamlmfpidaaGreatDoor.Sx
open Go
attribute [local irreducible] Calls

theorem get0_c (w : World) (t u : ByteArray) (hu : u.size ≤ 100000) (hn : NamT w) : Pu Tryz.prog n_cred_Store_get #[.pointer none, .string t, .string u] w (.pointer none) := by
  refine con_of_sx (cx := cx_cred_Store_get w (Un [])) (good_cred_Store_get w (Un [])) b_cred_Store_get rfl rfl (β := Va.z) [.c (.v (.pointer none)), .c (.v (.string t)), .c (.v (.string u))] 0 [] [oldF w] rfl rfl (old_sat rfl) ?_
  obtain ⟨p, e, hpe⟩ : ∃ p e, nameA u = (p, e) := ⟨_, _, rfl⟩
  refine call_pu (v := .tuple #[.string p, .int .i64 e]) (fun β w' hs => by
    have h := nameA_c w' u hu (hn.old (hs.get 0 rfl))
    rw [hpe] at h
    exact h) ?_
  refine BIf.not (BIf.dec (fun he => ?_) (fun he => ?_))
  · refine call_pu (fun β w' hs => users0S_c w' t) ?_
    refine ⟨.pointer none, fun w => zero_ptrC w, ?_⟩
    intro β w' hs
    exact hs.fin [] ⟨rfl, rfl⟩
  · intro β w' hs
    exact hs.fin [] ⟨rfl, rfl⟩
theorem change0_c (w : World) (t u : ByteArray) (y : Sec) (hu : u.size ≤ 100000) (hn : NamT w) : Pu Tryz.prog n_cred_Store_Change #[.pointer none, .string t, .string u, .agg y.vs.toArray] w (.int .i64 6) := by
  refine con_of_sx (cx := cx_cred_Store_Change w (Un [])) (good_cred_Store_Change w (Un [])) b_cred_Store_Change rfl rfl (β := Va.z) [.c (.v (.pointer none)), .c (.v (.string t)), .c (.v (.string u)), .agg y.x.ss] 0 [] [oldF w] rfl rfl (old_sat rfl) ?_
  refine call_pu (fun β w' hs => get0_c w' t u hu (hn.old (hs.get 0 rfl))) ?_
  intro β w' hs
  exact (hs.keepB (List.nil_sublist _)).fin [] ⟨rfl, rfl⟩
theorem revoke0_c (w : World) (t u : ByteArray) (on : Bool) (hu : u.size ≤ 100000) (hn : NamT w) : Pu Tryz.prog n_cred_Store_Revoke #[.pointer none, .string t, .string u, .bool on] w (.int .i64 6) := by
  refine con_of_sx (cx := cx_cred_Store_Revoke w (Un [])) (good_cred_Store_Revoke w (Un [])) b_cred_Store_Revoke rfl rfl (β := Va.z) [.c (.v (.pointer none)), .c (.v (.string t)), .c (.v (.string u)), .c (.v (.bool on))] 0 [] [oldF w] rfl rfl (old_sat rfl) ?_
  refine call_pu (fun β w' hs => get0_c w' t u hu (hn.old (hs.get 0 rfl))) ?_
  intro β w' hs
  exact (hs.keepB (List.nil_sublist _)).fin [] ⟨rfl, rfl⟩
theorem grant0_c (w : World) (t u role : ByteArray) (hu : u.size ≤ 100000) (hn : NamT w) : Pu Tryz.prog n_cred_Store_Grant #[.pointer none, .string t, .string u, .string role] w (.int .i64 6) := by
  refine con_of_sx (cx := cx_cred_Store_Grant w (Un [])) (good_cred_Store_Grant w (Un [])) b_cred_Store_Grant rfl rfl (β := Va.z) [.c (.v (.pointer none)), .c (.v (.string t)), .c (.v (.string u)), .c (.v (.string role))] 0 [] [oldF w] rfl rfl (old_sat rfl) ?_
  refine call_pu (fun β w' hs => get0_c w' t u hu (hn.old (hs.get 0 rfl))) ?_
  intro β w' hs
  exact (hs.keepB (List.nil_sublist _)).fin [] ⟨rfl, rfl⟩
theorem ungrant0_c (w : World) (t u role : ByteArray) (hu : u.size ≤ 100000) (hn : NamT w) : Pu Tryz.prog n_cred_Store_Ungrant #[.pointer none, .string t, .string u, .string role] w (.int .i64 6) := by
  refine con_of_sx (cx := cx_cred_Store_Ungrant w (Un [])) (good_cred_Store_Ungrant w (Un [])) b_cred_Store_Ungrant rfl rfl (β := Va.z) [.c (.v (.pointer none)), .c (.v (.string t)), .c (.v (.string u)), .c (.v (.string role))] 0 [] [oldF w] rfl rfl (old_sat rfl) ?_
  refine call_pu (fun β w' hs => get0_c w' t u hu (hn.old (hs.get 0 rfl))) ?_
  intro β w' hs
  exact (hs.keepB (List.nil_sublist _)).fin [] ⟨rfl, rfl⟩
theorem drop0_c (w : World) (t u : ByteArray) (hu : u.size ≤ 100000) (hn : NamT w) : Pu Tryz.prog n_cred_Store_Drop #[.pointer none, .string t, .string u] w (.int .i64 6) := by
  refine con_of_sx (cx := cx_cred_Store_Drop w (Un [])) (good_cred_Store_Drop w (Un [])) b_cred_Store_Drop rfl rfl (β := Va.z) [.c (.v (.pointer none)), .c (.v (.string t)), .c (.v (.string u))] 0 [] [oldF w] rfl rfl (old_sat rfl) ?_
  refine call_pu (fun β w' hs => get0_c w' t u hu (hn.old (hs.get 0 rfl))) ?_
  intro β w' hs
  exact (hs.keepB (List.nil_sublist _)).fin [] ⟨rfl, rfl⟩
end Go.Proofs.YtkobpamlmfpidaaGreatDoor.Sx

/- Has one a role? -/
namespace Go.Proofs.YtkobpamlmfpidaaGreatDoor.Sx
open Go
attribute [local irreducible] Calls

end Go.Proofs.YtkobpamlmfpidaaGreatDoor.Sx

/- A block's step, where the state is the front of a block. -/
namespace Go.Proofs.YtkobpamlmfpidaaGreatDoor.Sx
open Go Sha
attribute [local irreducible] Calls

end Go.Proofs.YtkobpamlmfpidaaGreatDoor.Sx

/- A term's print: a number in bytes of seven bits. -/
namespace Go.Proofs.YtkobpamlmfpidaaGreatDoor.Sx
open Go
attribute [local irreducible] Calls

end Go.Proofs.YtkobpamlmfpidaaGreatDoor.Sx

/- Boxes: a new one; how many terms it has. -/
namespace Go.Proofs.YtkobpamlmfpidaaGreatDoor.Sx
open Go Sha
attribute [local irreducible] Calls

end Go.Proofs.YtkobpamlmfpidaaGreatDoor.Sx

/- A plain box's hash of one part. -/
namespace Go.Proofs.YtkobpamlmfpidaaGreatDoor.Sx
open Go Sha
attribute [local irreducible] Calls

end Go.Proofs.YtkobpamlmfpidaaGreatDoor.Sx

/- Texts joined: the library's contract as ours; the message. -/
namespace Go.Proofs.YtkobpamlmfpidaaGreatDoor.Sx
open Go Sha
attribute [local irreducible] Calls

end Go.Proofs.YtkobpamlmfpidaaGreatDoor.Sx

/- Parts of bytes joined; a term's print. -/
namespace Go.Proofs.YtkobpamlmfpidaaGreatDoor.Sx
open Go
attribute [local irreducible] Calls

end Go.Proofs.YtkobpamlmfpidaaGreatDoor.Sx

/- SHA-256 of parts. -/
namespace Go.Proofs.YtkobpamlmfpidaaGreatDoor.Sx
open Go Sha
attribute [local irreducible] Calls

end Go.Proofs.YtkobpamlmfpidaaGreatDoor.Sx

/- Sums that need a key, plainly. -/
namespace Go.Proofs.YtkobpamlmfpidaaGreatDoor.Sx
open Go

end Go.Proofs.YtkobpamlmfpidaaGreatDoor.Sx

/- A byte sixty-four times; a key's bytes, each turned. -/
namespace Go.Proofs.YtkobpamlmfpidaaGreatDoor.Sx
open Go
attribute [local irreducible] Calls

section
variable {cx : Cx} {β : Va} {n : Nat} {env : Env} {H : List Bk} {F : List Fact} {w : World}
end
end Go.Proofs.YtkobpamlmfpidaaGreatDoor.Sx

/- A byte sixty-four times. -/
namespace Go.Proofs.YtkobpamlmfpidaaGreatDoor.Sx
open Go
attribute [local irreducible] Calls

/-! ### a key's bytes, each turned -/
theorem Con.real {P : Program} {k : FuncId} {args : Array Value} {w : World} {Gs : List Fact} {R : Value → List Fact → Prop} (h : Con P k args w Gs R) : Con P k args w Gs (fun v Fs => R v Fs ∧ ∃ w', Mem w' Fs) :=
  Calls.mono h fun _ w' ⟨v, he, Fs, hR, hc, hm, ho, hD⟩ => ⟨v, he, Fs, ⟨hR, w', hm⟩, hc, hm, ho, hD⟩
end Go.Proofs.YtkobpamlmfpidaaGreatDoor.Sx

/- Sums that need a key: at once. -/
namespace Go.Proofs.YtkobpamlmfpidaaGreatDoor.Sx
open Go
attribute [local irreducible] Calls

end Go.Proofs.YtkobpamlmfpidaaGreatDoor.Sx

/- A term's print. -/
namespace Go.Proofs.YtkobpamlmfpidaaGreatDoor.Sx
open Go
attribute [local irreducible] Calls

/-- Where a term's parts lie. -/
structure TA where
  k : Option Addr
  t : Option Addr
  l : Option Addr
  m : Option Addr
  kc : Nat
  tc : Nat
  lc : Nat
  mc : Nat
def ints (l : List Nat) : List Value := l.map fun (n : Nat) => Value.int .i64 (n : Int)
/-- A term's parts can be read. -/
structure TRd (t : Bx.Term) (a : TA) (w : World) : Prop where
  hk : Bs w a.k t.key
  ht : Bs w a.t t.text
  hl : Rd 1 a.l t.list.length (ints t.list) w
  hm : Bs w a.m t.mask
theorem TRd.old {t : Bx.Term} {a : TA} {W w : World} (h : TRd t a W) (ho : (oldF W).p w) : TRd t a w := ⟨Rd.old h.hk ho, Rd.old h.ht ho, Rd.old h.hl ho, Rd.old h.hm ho⟩
/-- A term that isn't too great. -/
structure TSz (t : Bx.Term) : Prop where
  kind : t.kind < 1000
  rounds : t.rounds < 1000
  key : t.key.length ≤ 1000000
  text : t.text.length ≤ 1000000
  list : t.list.length ≤ 10000
  nums : ∀ n ∈ t.list, n < 1000000
  mask : t.mask.length ≤ 1000000

end Go.Proofs.YtkobpamlmfpidaaGreatDoor.Sx

/- Lists of numbers: copied, looked through; a term of its own. -/
namespace Go.Proofs.YtkobpamlmfpidaaGreatDoor.Sx
open Go
attribute [local irreducible] Calls

end Go.Proofs.YtkobpamlmfpidaaGreatDoor.Sx

/- slices.Sort at numbers, as a contract. -/
namespace Go.Proofs.YtkobpamlmfpidaaGreatDoor.Sx
open Go
attribute [local irreducible] Calls

def sortN (l : List Nat) : List Nat := l.mergeSort (fun x y => decide (x ≤ y))
theorem sortN_len (l : List Nat) : (sortN l).length = l.length := by simp [sortN]
end Go.Proofs.YtkobpamlmfpidaaGreatDoor.Sx

/- A box in memory. -/
namespace Go.Proofs.YtkobpamlmfpidaaGreatDoor.Sx
open Go
attribute [local irreducible] Calls

def str (l : List UInt8) : ByteArray := ⟨l.toArray⟩
/-- A term's parts, to be read. -/
def TD_ (t : Bx.Term) (a : TA) (k : Nat) : Prop := (bsF a.k t.key).D k ∨ (bsF a.t t.text).D k ∨ (rdF 1 a.l t.list.length (ints t.list)).D k ∨ (bsF a.m t.mask).D k
theorem TRd.st {t : Bx.Term} {a : TA} {w w' : World} (hs : ∀ k, TD_ t a k → w'.heap[k]? = w.heap[k]?) (h : TRd t a w) : TRd t a w' :=
  ⟨(bsF a.k t.key).st w w' (fun k hk => hs k (.inl hk)) h.hk, (bsF a.t t.text).st w w' (fun k hk => hs k (.inr (.inl hk))) h.ht, (rdF 1 a.l t.list.length (ints t.list)).st w w' (fun k hk => hs k (.inr (.inr (.inl hk)))) h.hl, (bsF a.m t.mask).st w w' (fun k hk => hs k (.inr (.inr (.inr hk)))) h.hm⟩
end Go.Proofs.YtkobpamlmfpidaaGreatDoor.Sx

/- A symbolic box's hash of one part. -/
namespace Go.Proofs.YtkobpamlmfpidaaGreatDoor.Sx
open Go
attribute [local irreducible] Calls

/-- A term of a text alone. -/
def hashT (l : List UInt8) : Bx.Term := ⟨1, [], l, 0, [], []⟩
end Go.Proofs.YtkobpamlmfpidaaGreatDoor.Sx

/- What looks like a handle, and its number. -/
namespace Go.Proofs.YtkobpamlmfpidaaGreatDoor.Sx
open Go
attribute [local irreducible] Calls

end Go.Proofs.YtkobpamlmfpidaaGreatDoor.Sx

/- A tag, opened. -/
namespace Go.Proofs.YtkobpamlmfpidaaGreatDoor.Sx
open Go
attribute [local irreducible] Calls

end Go.Proofs.YtkobpamlmfpidaaGreatDoor.Sx

/- Bytes, one by one. -/
namespace Go.Proofs.YtkobpamlmfpidaaGreatDoor.Sx
open Go
attribute [local irreducible] Calls

end Go.Proofs.YtkobpamlmfpidaaGreatDoor.Sx

/- The reference's sums with a key. -/
namespace Go.Proofs.YtkobpamlmfpidaaGreatDoor.Sx
open Go
attribute [local irreducible] Calls

/-- A row of bytes, from now on to be read. -/
theorem Sat.ro {cx : Cx} {β : Va} {n : Nat} {H : List Bk} {F : List Fact} {w : World} (h : Sat cx β n H F w) (j : Nat) {e : Nat} {A : Option Addr} {l : List UInt8} {c : Nat} (hj : nth F j = some (browF e A l c)) : Sat cx β n H (putAt F j (bsF A l)) w := by
  have hp := h.get j hj
  exact h.upd hj rfl (Chg.refl _ _) (row_rd hp) (fun k hk => .inl (browRoD hp k hk))
/-! ### turned -/
end Go.Proofs.YtkobpamlmfpidaaGreatDoor.Sx

/- The reference's sums with a key; a password that is stretched. -/
namespace Go.Proofs.YtkobpamlmfpidaaGreatDoor.Sx
open Go
attribute [local irreducible] Calls

end Go.Proofs.YtkobpamlmfpidaaGreatDoor.Sx

/- A sum that grows: the table of its state; new; copied. -/
namespace Go.Proofs.YtkobpamlmfpidaaGreatDoor.Sx
open Go Sha
attribute [local irreducible] Calls

/-! ### plainly -/
/-! ### in memory -/
end Go.Proofs.YtkobpamlmfpidaaGreatDoor.Sx

/- A sum that grows: written to; its value. -/
namespace Go.Proofs.YtkobpamlmfpidaaGreatDoor.Sx
open Go Sha
attribute [local irreducible] Calls

end Go.Proofs.YtkobpamlmfpidaaGreatDoor.Sx

/- A sum that grows: its value. -/
namespace Go.Proofs.YtkobpamlmfpidaaGreatDoor.Sx
open Go Sha
attribute [local irreducible] Calls

end Go.Proofs.YtkobpamlmfpidaaGreatDoor.Sx

/- A sum with a key that grows. -/
namespace Go.Proofs.YtkobpamlmfpidaaGreatDoor.Sx
open Go
attribute [local irreducible] Calls

/-! ### begun -/
end Go.Proofs.YtkobpamlmfpidaaGreatDoor.Sx

/- One sum of parts, by a Mac that is kept. -/
namespace Go.Proofs.YtkobpamlmfpidaaGreatDoor.Sx
open Go
attribute [local irreducible] Calls

abbrev Part := Option Addr × List UInt8 × Nat
def partV (p : Part) : Value := .slice p.1 p.2.1.length p.2.2
/-- Parts, to be read. -/
def partF (P : Option Addr) (ps : List Part) : Fact where
  own := false
  D := fun k => (rdF 1 P ps.length (ps.map partV)).D k ∨ ∃ p ∈ ps, (bsF p.1 p.2.1).D k
  p := fun w => Rd 1 P ps.length (ps.map partV) w ∧ ∀ p ∈ ps, Bs w p.1 p.2.1
  st := fun w w' hs h => ⟨(rdF 1 P ps.length (ps.map partV)).st w w' (fun k hk => hs k (.inl hk)) h.1, fun p hp => (bsF p.1 p.2.1).st w w' (fun k hk => hs k (.inr ⟨p, hp, hk⟩)) (h.2 p hp)⟩
end Go.Proofs.YtkobpamlmfpidaaGreatDoor.Sx

/- The pieces of a password that is stretched: the first. -/
namespace Go.Proofs.YtkobpamlmfpidaaGreatDoor.Sx
open Go
attribute [local irreducible] Calls

section
variable {cx : Cx} {β : Va} {n : Nat} {H : List Bk} {F : List Fact} {w : World}
theorem Sat.subN (h : Sat cx β n H F w) (js : List Nat) (hno : ∀ f ∈ takeIx F js, f.own = false) (g : Fact) (hgo : g.own = false) (hp : g.p w) (hD : ∀ k, g.D k → Un (takeIx F js) k) : Sat cx β n H (g :: F) w := by
  have hin : ∀ k, g.D k → ∃ (i : Nat) (f : Fact), F[i]? = some f ∧ f.own = false ∧ f.D k := fun k hk => by
    obtain ⟨f, hf, hfk⟩ := hD k hk
    obtain ⟨i, _, hi⟩ := takeIx_mem hf
    exact ⟨i, f, hi, hno f hf, hfk⟩
  refine h.old g hp (fun k hk => ?_) (fun b hb q => ?_) (fun q => by rw [hgo] at q; cases q) (fun g' hg' ho k hk hk' => ?_) (fun p hpp q => ?_)
  · obtain ⟨i, f, hi, _, hfk⟩ := hin k hk
    exact h.flt f (List.mem_of_getElem? hi) k hfk
  · obtain ⟨i, f, hi, _, hfk⟩ := hin _ q
    exact h.sepb f (List.mem_of_getElem? hi) b hb hfk
  · have ho' : g'.own = true := ho.resolve_left (by rw [hgo]; decide)
    obtain ⟨i, f, hi, hfo, hfk⟩ := hin k hk
    obtain ⟨j, hj⟩ := List.getElem?_of_mem hg'
    have hne : j ≠ i := fun q => by subst q; rw [hj] at hi; obtain rfl := Option.some.inj hi; rw [hfo] at ho'; cases ho'
    exact h.apart hj hi hne (.inl ho') k hk' hfk
  · obtain ⟨i, f, hi, _, hfk⟩ := hin _ q
    exact (h.pin p hpp).2.2 f (List.mem_of_getElem? hi) hfk
theorem Sat.part2 {P A B : Option Addr} {l m : List UInt8} {c d : Nat} (h : Sat cx β n H F w) (js : List Nat) (hj : takeIx F js = [rdF 1 P 2 [.slice A l.length c, .slice B m.length d], bsF A l, bsF B m]) : Sat cx β n H (partF P [(A, l, c), (B, m, d)] :: F) w := by
  have get : ∀ f ∈ takeIx F js, f.p w := fun f hf => by obtain ⟨i, _, hi⟩ := takeIx_mem hf; exact h.fact f (List.mem_of_getElem? hi)
  have hP : Rd 1 P 2 [.slice A l.length c, .slice B m.length d] w := get (rdF 1 P 2 [.slice A l.length c, .slice B m.length d]) (by rw [hj]; simp)
  have hA : Bs w A l := get (bsF A l) (by rw [hj]; simp)
  have hB : Bs w B m := get (bsF B m) (by rw [hj]; simp)
  refine h.subN js (fun f hf => ?_) _ rfl ⟨hP, fun p hp => ?_⟩ (fun k hk => ?_)
  · rw [hj] at hf
    simp only [List.mem_cons, List.not_mem_nil, or_false] at hf
    rcases hf with rfl | rfl | rfl <;> rfl
  · simp only [List.mem_cons, List.not_mem_nil, or_false] at hp
    rcases hp with rfl | rfl
    · exact hA
    · exact hB
  · rw [hj]
    rcases hk with hk | ⟨p, hp, hk⟩
    · exact ⟨_, List.mem_cons_self, hk⟩
    · simp only [List.mem_cons, List.not_mem_nil, or_false] at hp
      rcases hp with rfl | rfl
      · exact ⟨bsF A l, by simp, hk⟩
      · exact ⟨bsF B m, by simp, hk⟩
end
end Go.Proofs.YtkobpamlmfpidaaGreatDoor.Sx

/- A password's key, of 32 bytes. -/
namespace Go.Proofs.YtkobpamlmfpidaaGreatDoor.Sx
open Go
attribute [local irreducible] Calls

end Go.Proofs.YtkobpamlmfpidaaGreatDoor.Sx

/- Two sums, turned. -/
namespace Go.Proofs.YtkobpamlmfpidaaGreatDoor.Sx
open Go
attribute [local irreducible] Calls

/-- What stands in one list and not in the other. -/
def notIn (l m : List Nat) : List Nat := l.filter fun x => !decide (x ∈ m)
end Go.Proofs.YtkobpamlmfpidaaGreatDoor.Sx

/- Two tags, turned. -/
namespace Go.Proofs.YtkobpamlmfpidaaGreatDoor.Sx
open Go
attribute [local irreducible] Calls

/-- What a sum of the box's must be. -/
structure OkS (l : List Nat) (m : List UInt8) : Prop where
  len : l.length ≤ 4096
  nums : ∀ n ∈ l, n ≤ 4096
  mask : m.length = 32
def mixL (l1 l2 : List Nat) : List Nat := sortN (notIn l1 l2 ++ notIn l2 l1)
def turnT (L : List Nat) (M : List UInt8) : Bx.Term := ⟨4, [], [], 0, L, M⟩
end Go.Proofs.YtkobpamlmfpidaaGreatDoor.Sx

/- The symbolic box's example of BoxHandles: plainly. -/
namespace Go.Proofs.YtkobpamlmfpidaaGreatDoor.Sx
open Go

def tA : Bx.Term := hashT [97]
end Go.Proofs.YtkobpamlmfpidaaGreatDoor.Sx

/- The symbolic box's example of BoxHandles. -/
namespace Go.Proofs.YtkobpamlmfpidaaGreatDoor.Sx
open Go
attribute [local irreducible] Calls

end Go.Proofs.YtkobpamlmfpidaaGreatDoor.Sx

/- The program's box: hashes, sums with a key, stretched passwords; plain and symbolic. -/
namespace Go.Proofs.YtkobpamlmfpidaaGreatDoor.Sx
open Go
attribute [local irreducible] Calls

end Go.Proofs.YtkobpamlmfpidaaGreatDoor.Sx

/- The document's handles. -/
namespace Go.Proofs.YtkobpamlmfpidaaGreatDoor.Sx
open Go
attribute [local irreducible] Calls

end Go.Proofs.YtkobpamlmfpidaaGreatDoor.Sx

/- The reference's terms: lists of numbers compared, terms compared. -/
namespace Go.Proofs.YtkobpamlmfpidaaGreatDoor.Sx
open Go
attribute [local irreducible] Calls

end Go.Proofs.YtkobpamlmfpidaaGreatDoor.Sx

/- The reference's box in memory; a term's handle. -/
namespace Go.Proofs.YtkobpamlmfpidaaGreatDoor.Sx
open Go
attribute [local irreducible] Calls

end Go.Proofs.YtkobpamlmfpidaaGreatDoor.Sx

/- The reference's box: hashes, sums with a key, stretched passwords. -/
namespace Go.Proofs.YtkobpamlmfpidaaGreatDoor.Sx
open Go
attribute [local irreducible] Calls

end Go.Proofs.YtkobpamlmfpidaaGreatDoor.Sx

/- The reference's box: a tag, opened. -/
namespace Go.Proofs.YtkobpamlmfpidaaGreatDoor.Sx
open Go
attribute [local irreducible] Calls

end Go.Proofs.YtkobpamlmfpidaaGreatDoor.Sx

/- The reference's box: two tags, turned. -/
namespace Go.Proofs.YtkobpamlmfpidaaGreatDoor.Sx
open Go
attribute [local irreducible] Calls

/-- The numbers up to k that stand in just one of two lists. -/
def symL (l1 l2 : List Nat) (k : Nat) : List Nat := (List.range' 1 k).filter fun n => decide (n ∈ l1) != decide (n ∈ l2)
theorem symL_len (l1 l2 : List Nat) (k : Nat) : (symL l1 l2 k).length ≤ k := by
  have h := List.length_filter_le (fun n => decide (n ∈ l1) != decide (n ∈ l2)) (List.range' 1 k)
  rw [List.length_range'] at h
  exact h
theorem symL_mix {l1 l2 : List Nat} {N : Nat} (d1 : l1.Nodup) (d2 : l2.Nodup) (h1 : ∀ n ∈ l1, 1 ≤ n ∧ n ≤ N) (h2 : ∀ n ∈ l2, 1 ≤ n ∧ n ≤ N) : symL l1 l2 N = mixL l1 l2 := by
  have hp : (symL l1 l2 N).Perm (notIn l1 l2 ++ notIn l2 l1) := by
    refine (List.perm_ext_iff_of_nodup ?_ ?_).2 (fun n => ?_)
    · exact List.Nodup.sublist List.filter_sublist (List.nodup_range' 1)
    · refine List.nodup_append.2 ⟨List.Nodup.sublist List.filter_sublist d1, List.Nodup.sublist List.filter_sublist d2, ?_⟩
      intro x hx y hy q
      subst q
      have a := (List.mem_filter.1 hx).2
      have b := (List.mem_filter.1 hy).1
      simp [b] at a
    · simp only [symL, notIn, List.mem_filter, List.mem_append, List.mem_range'_1]
      have k1 := h1 n
      have k2 := h2 n
      by_cases a : n ∈ l1 <;> by_cases b : n ∈ l2 <;> simp [a, b]
      · have := k1 a; omega
      · have := k2 b; omega
  have hs : (mixL l1 l2).Perm (notIn l1 l2 ++ notIn l2 l1) := List.mergeSort_perm _ _
  refine List.Perm.eq_of_pairwise (le := fun a b => a ≤ b) (fun a b _ _ p q => Nat.le_antisymm p q) ?_ ?_ (hp.trans hs.symm)
  · exact ((List.pairwise_lt_range' 1).sublist List.filter_sublist).imp (fun h => Nat.le_of_lt h)
  · have h := List.pairwise_mergeSort (le := fun x y : Nat => decide (x ≤ y)) (by simp only [decide_eq_true_eq]; omega) (by simp only [Bool.or_eq_true, decide_eq_true_eq]; omega) (notIn l1 l2 ++ notIn l2 l1)
    exact h.imp (fun h => of_decide_eq_true h)
theorem Con.grow {P : Program} {k : FuncId} {args : Array Value} {w : World} {Gs Gs' : List Fact} {R : Value → List Fact → Prop} (hsub : ∀ k, Un Gs k → Un Gs' k) (h : Con P k args w Gs R) : Con P k args w Gs' R :=
  Calls.mono h fun _ _ ⟨v, he, Fs, hR, hc, hm, ho, hD⟩ => ⟨v, he, Fs, hR, hc.mono (fun i _ => hsub i), hm, ho, fun f hf k hk => (hD f hf k hk).imp_left (hsub k)⟩
/-- What a tag that is opened has. -/
def OkN (B : Bx.Box) (l : List Nat) (m : List UInt8) : Prop := OkS l m ∧ l.Nodup ∧ ∀ n ∈ l, 1 ≤ n ∧ n ≤ B.L.length
end Go.Proofs.YtkobpamlmfpidaaGreatDoor.Sx

/- What a box holds, plainly: tags that are opened have one form; turned, they have it still. -/
namespace Go.Proofs.YtkobpamlmfpidaaGreatDoor.Sx
open Go
attribute [local irreducible] Calls

/-- A sum that may be turned. -/
structure Nf (B : Bx.Box) (l : List Nat) (m : List UInt8) : Prop where
  mask : m.length = 32
  sorted : l.Pairwise (· < ·)
  nums : ∀ n ∈ l, 1 ≤ n ∧ n ≤ B.L.length
  base : ∀ n ∈ l, ∀ u, B.L[n - 1]? = some u → u.kind ≠ 4
structure K4 (B : Bx.Box) (t : Bx.Term) : Prop where
  nf : Nf B t.list t.mask
  form : t = turnT t.list t.mask
  one : ¬ (t.list.length = 1 ∧ t.mask = Bx.noughts)
  raw : ¬ (t.list = [] ∧ ¬ t.mask.take 28 = Bx.front)
structure BInv (B : Bx.Box) : Prop where
  sz : ∀ t ∈ B.L, TSz t
  nodup : B.L.Nodup
  k4 : ∀ t ∈ B.L, t.kind = 4 → K4 B t
  plain : B.sym = false → B.L = []
  len : B.L.length ≤ 4096
structure Ext (B B' : Bx.Box) : Prop where
  sym : B'.sym = B.sym
  full : B'.full = B.full
  len : B'.L.length ≤ B.L.length + 1
  inv : BInv B'
  mono : ∀ h r, B.opens h = some r → B'.opens h = some r
theorem Ext.refl {B : Bx.Box} (h : BInv B) : Ext B B := ⟨rfl, rfl, Nat.le_succ _, h, fun _ _ h => h⟩
theorem Nf.grow {B : Bx.Box} {l : List Nat} {m : List UInt8} (t : Bx.Term) (h : Nf B l m) : Nf { B with L := B.L ++ [t] } l m := by
  refine ⟨h.mask, h.sorted, fun n hn => ?_, fun n hn u hu => ?_⟩
  · have := h.nums n hn
    simp only [List.length_append, List.length_cons, List.length_nil]
    omega
  · have := h.nums n hn
    refine h.base n hn u ?_
    simp only at hu
    rw [List.getElem?_append_left (by omega)] at hu
    exact hu
theorem Nf.ok {B : Bx.Box} {l : List Nat} {m : List UInt8} (hi : BInv B) (h : Nf B l m) : OkN B l m := by
  have hnd : l.Nodup := h.sorted.imp (fun q => Nat.ne_of_lt q)
  refine ⟨⟨?_, fun n hn => ?_, h.mask⟩, hnd, h.nums⟩
  · have e := symL_mix (l2 := []) hnd List.nodup_nil h.nums (fun n hn => (by cases hn))
    have e2 : (mixL l []).length = l.length := by
      rw [mixL, sortN_len]
      have e3 : notIn l [] = l := List.filter_eq_self.2 (fun a _ => by simp)
      rw [e3]
      simp [notIn]
    have := symL_len l [] B.L.length
    rw [e, e2] at this
    have := hi.len
    omega
  · have := h.nums n hn
    have := hi.len
    omega
end Go.Proofs.YtkobpamlmfpidaaGreatDoor.Sx

/- A sum's one tag. -/
namespace Go.Proofs.YtkobpamlmfpidaaGreatDoor.Sx
open Go
attribute [local irreducible] Calls

theorem K4.grow {B : Bx.Box} {t : Bx.Term} (u : Bx.Term) (h : K4 B t) : K4 { B with L := B.L ++ [u] } t := ⟨h.nf.grow u, h.form, h.one, h.raw⟩
end Go.Proofs.YtkobpamlmfpidaaGreatDoor.Sx

/- A box that has told something is a box. -/
namespace Go.Proofs.YtkobpamlmfpidaaGreatDoor.Sx
open Go
attribute [local irreducible] Calls

theorem len_cons {l : List Value} {n : Nat} (h : l.length = n + 1) : ∃ a r, l = a :: r ∧ r.length = n := by
  cases l with
  | nil => cases h
  | cons a r => exact ⟨a, r, rfl, by simpa using h⟩
theorem cutC (w : World) (A : Option Addr) (l : List UInt8) (c k : Nat) (hr : Bs w A l) (hc : l.length ≤ c) (hn : k ≤ lim) :
    Con Tryz.prog n_ostiaryref01_Cut #[.slice A l.length c, .int .i64 k] w [] fun v Fs => ∃ A' c', v = .slice A' (l.take k).length c' ∧ (l.take k).length ≤ c' ∧ c' ≤ maxLen ∧ Fs = [browF ty_uint8 A' (l.take k) c'] := con_row (cut_c w A l c k hr hc hn)
end Go.Proofs.YtkobpamlmfpidaaGreatDoor.Sx

/- A secret cut; apart. -/
namespace Go.Proofs.YtkobpamlmfpidaaGreatDoor.Sx
open Go
attribute [local irreducible] Calls

def fewA (a : ASec) : ASec := ⟨a.salt.take 40, a.iter, a.stored.take 40, a.server.take 40, a.ha1.take 40⟩
set_option maxHeartbeats 1000000 in
theorem rFew_c (w : World) (x : Sec) (hx : SRd x.x x.a w) (c1 : x.salt.l.length ≤ x.salt.c) (c2 : x.stored.l.length ≤ x.stored.c) (c3 : x.server.l.length ≤ x.server.c) (c4 : x.ha1.l.length ≤ x.ha1.c) :
    Con Tryz.prog n_ostiaryref14_Few #[.agg x.vs.toArray] w [] fun v Fs => ∃ y : Sec, v = .agg y.vs.toArray ∧ y.a = fewA x.a ∧
      Fs = [browF ty_uint8 y.ha1.A y.ha1.l y.ha1.c, browF ty_uint8 y.server.A y.server.l y.server.c, browF ty_uint8 y.stored.A y.stored.l y.stored.c, browF ty_uint8 y.salt.A y.salt.l y.salt.c] := by
  have g := good_ostiaryref14_Few w (Un [])
  refine con_of_sx (cx := cx_ostiaryref14_Few w (Un [])) g b_ostiaryref14_Few rfl rfl (β := Va.z) [.agg x.x.ss] 0 [] [oldF w] rfl rfl (old_sat rfl) ?_
  refine draw_rule g p_ostiaryref14_Few_1 (by kernel_rfl) [⟨0, ty_ostiaryref14_Secret, x.x.ss⟩] [oldF w] (fun β w hs => hs.keepB (List.sublist_cons_self _ _)) ?_
  refine call_con [] (fun β w' hs => cutC w' x.salt.A x.salt.l x.salt.c 40 (Rd.old hx.r1 (hs.get 0 rfl)) c1 (by decide)) ?_
  rintro v Fs ⟨A1, d1, rfl, e1, _, rfl⟩
  refine ⟨fun β w hs => (hs.keepB (List.sublist_cons_self _ _)).perm [1], ?_⟩
  refine call_con [] (fun β w' hs => cutC w' x.stored.A x.stored.l x.stored.c 40 (Rd.old hx.r2 (hs.get 1 rfl)) c2 (by decide)) ?_
  rintro v Fs ⟨A2, d2, rfl, e2, _, rfl⟩
  refine ⟨fun β w hs => (hs.keepB (List.sublist_cons_self _ _)).perm [2], ?_⟩
  refine call_con [] (fun β w' hs => cutC w' x.server.A x.server.l x.server.c 40 (Rd.old hx.r3 (hs.get 2 rfl)) c3 (by decide)) ?_
  rintro v Fs ⟨A3, d3, rfl, e3, _, rfl⟩
  refine ⟨fun β w hs => (hs.keepB (List.sublist_cons_self _ _)).perm [3], ?_⟩
  refine call_con [] (fun β w' hs => cutC w' x.ha1.A x.ha1.l x.ha1.c 40 (Rd.old hx.r4 (hs.get 3 rfl)) c4 (by decide)) ?_
  rintro v Fs ⟨A4, d4, rfl, e4, _, rfl⟩
  refine ⟨fun β w hs => (hs.keepB (List.sublist_cons_self _ _)).perm [4], ?_⟩
  refine ⟨fun β w hs => (hs.keepB (List.sublist_cons_self _ _)).perm [4], ?_⟩
  intro β w' hs
  exact (hs.keepB (List.nil_sublist _)).fin [0, 1, 2, 3] ⟨⟨⟨A1, d1, x.salt.l.take 40⟩, x.iter, ⟨A2, d2, x.stored.l.take 40⟩, ⟨A3, d3, x.server.l.take 40⟩, ⟨A4, d4, x.ha1.l.take 40⟩⟩, rfl, rfl, rfl⟩ rfl rfl rfl ⟨rfl, rfl, rfl, rfl, trivial⟩
end Go.Proofs.YtkobpamlmfpidaaGreatDoor.Sx

/- A credential cut; apart. -/
namespace Go.Proofs.YtkobpamlmfpidaaGreatDoor.Sx
open Go
attribute [local irreducible] Calls

def cut40 (s : ByteArray) : ByteArray := s.extract 0 (min s.size 40)
def fewCA (c : ACrd) : ACrd := ⟨cut40 c.tenant, cut40 c.user, fewA c.sec, c.gen, (c.roles.take 10).map cut40, c.revoked⟩
set_option maxHeartbeats 1000000 in
theorem rFewCred_c (w : World) (c : Crd) (hx : SRd c.sec.x c.sec.a w) (hr : Rd 1 c.rA c.roles.length (strs c.roles) w) (hn : c.roles.length ≤ maxLen) (hts : c.tenant.size ≤ maxLen) (hus : c.user.size ≤ maxLen) (hrs : ∀ r ∈ c.roles, r.size ≤ maxLen) (k1 : c.sec.salt.l.length ≤ c.sec.salt.c) (k2 : c.sec.stored.l.length ≤ c.sec.stored.c) (k3 : c.sec.server.l.length ≤ c.sec.server.c) (k4 : c.sec.ha1.l.length ≤ c.sec.ha1.c) :
    Con Tryz.prog n_ostiaryref14_FewCred #[.agg c.vs.toArray] w [] fun v Fs => ∃ d : Crd, v = .agg d.vs.toArray ∧ d.a = fewCA c.a ∧ d.roles.length ≤ d.rc ∧
      Fs = [browF ty_uint8 d.sec.ha1.A d.sec.ha1.l d.sec.ha1.c, browF ty_uint8 d.sec.server.A d.sec.server.l d.sec.server.c, browF ty_uint8 d.sec.stored.A d.sec.stored.l d.sec.stored.c, browF ty_uint8 d.sec.salt.A d.sec.salt.l d.sec.salt.c, srowF d.rA d.roles d.rc] := by
  have g := good_ostiaryref14_FewCred w (Un [])
  have hml := maxLen_eq
  refine con_of_sx (cx := cx_ostiaryref14_FewCred w (Un [])) g b_ostiaryref14_FewCred rfl rfl (β := Va.z) [.agg c.ss] 0 [] [oldF w] rfl rfl (old_sat rfl) ?_
  obtain ⟨out, hout⟩ : ∃ out : Nat → List ByteArray, ∀ i, out i = ((c.roles.take i).take 10).map cut40 := ⟨fun i => _, fun i => rfl⟩
  have hol : ∀ i, (out i).length ≤ 10 := fun i => by rw [hout, List.length_map, List.length_take]; omega
  have h00 : out 0 = [] := by rw [hout]; rfl
  refine loop_rule (ι := WoJ) 2 (fun j => [(1, .c (.p 0 0)), (2, .c (.p 1 0)), (3, .c (.v (.slice j.A (out j.i).length j.c))), (7, .c (.v (.slice c.rA c.roles.length c.rc))), (8, .c (.v (.int .i64 (c.roles.length : Int)))), (9, .c (.v (.int .i64 (j.i : Int))))]) (fun _ => _) (fun j => [srowF j.A (out j.i) j.c, oldF w])
    (fun j => j.i ≤ c.roles.length ∧ (out j.i).length ≤ j.c) (fun j => c.roles.length - j.i) ⟨0, none, 0⟩ ⟨Nat.zero_le _, by rw [h00]; exact Nat.le_refl _⟩ (Ent.mk' ⟨rfl, rfl, by show some (SV.c (.v (.slice none 0 0))) = some (SV.c (.v (.slice none (out 0).length 0))); rw [h00]; rfl, rfl, rfl, rfl, trivial⟩ rfl (fun β w' hs => by
      have h := hs.nilRow ty_string 1
      simp only [h00]
      exact h)) g ?_
  rintro ⟨i, A, d⟩ ⟨hi, hd⟩
  simp only at hi hd
  refine BIf.dec (fun hlt => ?_) (fun hge => ?_)
  · have hlt0 : (i : Int) < c.roles.length := hlt
    obtain ⟨y, hy, hym⟩ := at_lt (show i < c.roles.length by omega)
    obtain ⟨ad, hA, _⟩ := hr.2 (by omega)
    refine ⟨ad, i, hA, rfl, by omega, .string y, fun β w' hs => Rd.cell1 (by have h := Rd.old hr (hs.get 1 rfl); rw [hA] at h; exact h) (by simp [strs, hy]), ?_⟩
    refine BIf.dec (fun h10 => ?_) (fun h10 => ?_)
    · have h100 : (i : Int) < 10 := h10
      have hnx : out (i + 1) = out i ++ [cut40 y] := by
        rw [hout, hout, List.take_take, List.take_take, show min 10 (i + 1) = i + 1 by omega, show min 10 i = i by omega, List.take_add_one, hy, List.map_append]
        rfl
      have hl1 : (out (i + 1)).length = (out i).length + 1 := by rw [hnx, List.length_append]; rfl
      have hol1 := hol (i + 1)
      refine call_pu (v := .string (cut40 y)) (fun β w' hs => cutText_c w' y 40 (hrs y hym) (by decide)) ?_
      intro b2
      refine ⟨1, (out i).length, (out (i + 1)).length, strs (out i), [.string (cut40 y)], strs (out (i + 1)), rfl, fun β w hs => row_rd (hs.get 0 rfl), (fun u hu => by obtain rfl := List.mem_singleton.1 hu; rfl), by rw [hl1], by rw [hnx]; simp [strs], by omega, by show (out (i + 1)).length * 16 ≤ _; omega, ?_⟩
      intro A' c' q1 q2 q3
      refine ⟨((i + 1 : Nat) : Int), by rw [wrap_i64 (by omega) (by omega)]; rfl, ?_⟩
      exact ⟨⟨i + 1, A', c'⟩, ⟨by show i + 1 ≤ c.roles.length; omega, q1⟩, by show c.roles.length - (i + 1) < c.roles.length - i; omega, Ent.mk' ⟨rfl, rfl, rfl, rfl, rfl, rfl, trivial⟩ rfl (fun β w' hs => (hs.perm [1, 2]).lower)⟩
    · have h100 : ¬ (i : Int) < 10 := h10
      have hnx : out (i + 1) = out i := by
        rw [hout, hout, List.take_take, List.take_take, show min 10 (i + 1) = 10 by omega, show min 10 i = 10 by omega]
      refine ⟨((i + 1 : Nat) : Int), by rw [wrap_i64 (by omega) (by omega)]; rfl, ?_⟩
      refine ⟨⟨i + 1, A, d⟩, ⟨by show i + 1 ≤ c.roles.length; omega, by show (out (i + 1)).length ≤ d; rw [hnx]; exact hd⟩, by show c.roles.length - (i + 1) < c.roles.length - i; omega, ?_⟩
      simp only [hnx]
      exact Ent.same ⟨rfl, rfl, rfl, rfl, rfl, rfl, trivial⟩ rfl
  · have hge0 : ¬ (i : Int) < c.roles.length := hge
    have hfin : out i = (c.roles.take 10).map cut40 := by rw [hout, List.take_of_length_le (show c.roles.length ≤ i by omega)]
    rw [hfin] at hd ⊢
    refine draw_rule g p_ostiaryref14_FewCred_8 (by kernel_rfl) [⟨0, ty_ostiaryref14_Cred, c.ss⟩] [oldF w] (fun β w hs => (hs.keepB (List.sublist_cons_self _ _)).perm [1]) ?_
    refine call_pu (v := .string (cut40 c.tenant)) (fun β w' hs => cutText_c w' c.tenant 40 hts (by decide)) ?_
    refine ⟨fun β w hs => (hs.keepB (List.sublist_cons_self _ _)).perm [1], ?_⟩
    refine call_pu (v := .string (cut40 c.user)) (fun β w' hs => cutText_c w' c.user 40 hus (by decide)) ?_
    refine ⟨fun β w hs => (hs.keepB (List.sublist_cons_self _ _)).perm [1], ?_⟩
    refine call_con [] (fun β w' hs => rFew_c w' c.sec (hx.old (hs.get 1 rfl)) k1 k2 k3 k4) ?_
    rintro v Fs ⟨y, rfl, hya, rfl⟩
    refine ⟨fun β w hs => (hs.keepB (List.sublist_cons_self _ _)).perm [5], ?_⟩
    refine ⟨fun β w hs => (hs.keepB (List.sublist_cons_self _ _)).perm [5], ?_⟩
    intro β w' hs
    exact (hs.keepB (List.nil_sublist _)).fin [0, 1, 2, 3, 4] ⟨⟨0, cut40 c.tenant, cut40 c.user, y, c.gen, A, d, (c.roles.take 10).map cut40, c.revoked⟩, rfl, by show ACrd.mk _ _ y.a _ _ _ = _; rw [hya]; rfl, hd, rfl⟩ rfl rfl rfl ⟨rfl, rfl, rfl, rfl, rfl, trivial⟩
end Go.Proofs.YtkobpamlmfpidaaGreatDoor.Sx

/- The document's store: nobody's. -/
namespace Go.Proofs.YtkobpamlmfpidaaGreatDoor.Sx
open Go
attribute [local irreducible] Calls

theorem rfind0_c (w : World) (t u : ByteArray) (hu : u.size ≤ 100000) : Pu Tryz.prog n_ostiaryref14_Find #[.pointer none, .string t, .string u] w (.int .i64 (-1)) := by
  refine con_of_sx (cx := cx_ostiaryref14_Find w (Un [])) (good_ostiaryref14_Find w (Un [])) b_ostiaryref14_Find rfl rfl (β := Va.z) [.c (.v (.pointer none)), .c (.v (.string t)), .c (.v (.string u))] 0 [] [] rfl rfl (Sat.start rfl) ?_
  refine call_pu (fun β w' hs => rsz_c w' u hu) ?_
  intro β w' hs
  exact hs.fin [] ⟨rfl, rfl⟩
theorem rAddT0_c (w : World) (t : ByteArray) : Pu Tryz.prog n_ostiaryref14_AddTenant #[.pointer none, .string t] w (.int .i64 6) := by
  refine con_of_sx (cx := cx_ostiaryref14_AddTenant w (Un [])) (good_ostiaryref14_AddTenant w (Un [])) b_ostiaryref14_AddTenant rfl rfl (β := Va.z) [.c (.v (.pointer none)), .c (.v (.string t))] 0 [] [] rfl rfl (Sat.start rfl) ?_
  intro β w' hs
  exact (hs.keepB (List.nil_sublist _)).fin [] ⟨rfl, rfl⟩
theorem rDropT0_c (w : World) (t : ByteArray) : Pu Tryz.prog n_ostiaryref14_DropTenant #[.pointer none, .string t] w (.int .i64 6) := by
  refine con_of_sx (cx := cx_ostiaryref14_DropTenant w (Un [])) (good_ostiaryref14_DropTenant w (Un [])) b_ostiaryref14_DropTenant rfl rfl (β := Va.z) [.c (.v (.pointer none)), .c (.v (.string t))] 0 [] [] rfl rfl (Sat.start rfl) ?_
  intro β w' hs
  exact (hs.keepB (List.nil_sublist _)).fin [] ⟨rfl, rfl⟩
theorem rRaise0_c (w : World) (n : Int) : Pu Tryz.prog n_ostiaryref14_Raise #[.pointer none, .int .u64 n] w (.int .i64 6) := by
  refine con_of_sx (cx := cx_ostiaryref14_Raise w (Un [])) (good_ostiaryref14_Raise w (Un [])) b_ostiaryref14_Raise rfl rfl (β := Va.z) [.c (.v (.pointer none)), .c (.v (.int .u64 n))] 0 [] [] rfl rfl (Sat.start rfl) ?_
  intro β w' hs
  exact (hs.keepB (List.nil_sublist _)).fin [] ⟨rfl, rfl⟩
theorem rAdd0_c (w : World) (t u : ByteArray) (y : Sec) : Pu Tryz.prog n_ostiaryref14_Add #[.pointer none, .string t, .string u, .agg y.vs.toArray] w (.int .i64 6) := by
  refine con_of_sx (cx := cx_ostiaryref14_Add w (Un [])) (good_ostiaryref14_Add w (Un [])) b_ostiaryref14_Add rfl rfl (β := Va.z) [.c (.v (.pointer none)), .c (.v (.string t)), .c (.v (.string u)), .agg y.x.ss] 0 [] [] rfl rfl (Sat.start rfl) ?_
  intro β w' hs
  exact (hs.keepB (List.nil_sublist _)).fin [] ⟨rfl, rfl⟩
theorem rChange0_c (w : World) (t u : ByteArray) (y : Sec) (hu : u.size ≤ 100000) : Pu Tryz.prog n_ostiaryref14_Change #[.pointer none, .string t, .string u, .agg y.vs.toArray] w (.int .i64 6) := by
  refine con_of_sx (cx := cx_ostiaryref14_Change w (Un [])) (good_ostiaryref14_Change w (Un [])) b_ostiaryref14_Change rfl rfl (β := Va.z) [.c (.v (.pointer none)), .c (.v (.string t)), .c (.v (.string u)), .agg y.x.ss] 0 [] [] rfl rfl (Sat.start rfl) ?_
  refine call_pu (fun β w' hs => rfind0_c w' t u hu) ?_
  intro β w' hs
  exact (hs.keepB (List.nil_sublist _)).fin [] ⟨rfl, rfl⟩
theorem rDrop0_c (w : World) (t u : ByteArray) (hu : u.size ≤ 100000) : Pu Tryz.prog n_ostiaryref14_Drop #[.pointer none, .string t, .string u] w (.int .i64 6) := by
  refine con_of_sx (cx := cx_ostiaryref14_Drop w (Un [])) (good_ostiaryref14_Drop w (Un [])) b_ostiaryref14_Drop rfl rfl (β := Va.z) [.c (.v (.pointer none)), .c (.v (.string t)), .c (.v (.string u))] 0 [] [] rfl rfl (Sat.start rfl) ?_
  refine call_pu (fun β w' hs => rfind0_c w' t u hu) ?_
  intro β w' hs
  exact (hs.keepB (List.nil_sublist _)).fin [] ⟨rfl, rfl⟩
theorem rRevoke0_c (w : World) (t u : ByteArray) (on : Bool) (hu : u.size ≤ 100000) : Pu Tryz.prog n_ostiaryref14_Revoke #[.pointer none, .string t, .string u, .bool on] w (.int .i64 6) := by
  refine con_of_sx (cx := cx_ostiaryref14_Revoke w (Un [])) (good_ostiaryref14_Revoke w (Un [])) b_ostiaryref14_Revoke rfl rfl (β := Va.z) [.c (.v (.pointer none)), .c (.v (.string t)), .c (.v (.string u)), .c (.v (.bool on))] 0 [] [] rfl rfl (Sat.start rfl) ?_
  refine call_pu (fun β w' hs => rfind0_c w' t u hu) ?_
  intro β w' hs
  exact (hs.keepB (List.nil_sublist _)).fin [] ⟨rfl, rfl⟩
theorem rGrant0_c (w : World) (t u role : ByteArray) (less : Bool) (hu : u.size ≤ 100000) : Pu Tryz.prog n_ostiaryref14_Grant #[.pointer none, .string t, .string u, .string role, .bool less] w (.int .i64 6) := by
  refine con_of_sx (cx := cx_ostiaryref14_Grant w (Un [])) (good_ostiaryref14_Grant w (Un [])) b_ostiaryref14_Grant rfl rfl (β := Va.z) [.c (.v (.pointer none)), .c (.v (.string t)), .c (.v (.string u)), .c (.v (.string role)), .c (.v (.bool less))] 0 [] [] rfl rfl (Sat.start rfl) ?_
  refine call_pu (fun β w' hs => rfind0_c w' t u hu) ?_
  intro β w' hs
  exact (hs.keepB (List.nil_sublist _)).fin [] ⟨rfl, rfl⟩
theorem rLoad0_c (w : World) (c : Crd) : Pu Tryz.prog n_ostiaryref14_Load #[.pointer none, .agg c.vs.toArray] w (.int .i64 6) := by
  refine con_of_sx (cx := cx_ostiaryref14_Load w (Un [])) (good_ostiaryref14_Load w (Un [])) b_ostiaryref14_Load rfl rfl (β := Va.z) [.c (.v (.pointer none)), .agg c.ss] 0 [] [] rfl rfl (Sat.start rfl) ?_
  intro β w' hs
  exact (hs.keepB (List.nil_sublist _)).fin [] ⟨rfl, rfl⟩
end Go.Proofs.YtkobpamlmfpidaaGreatDoor.Sx

/- Both stores, there or not; the calls on each in one form. -/
namespace Go.Proofs.YtkobpamlmfpidaaGreatDoor.Sx
open Go
attribute [local irreducible] Calls

/-- The program's store, there or not. -/
def stoO : Option Sto → Fact
  | some S => stoF S
  | none => noO
def ptrS : Option Sto → Value
  | some S => ptr S.b
  | none => .pointer none
/-- The document's store, or none; and rows that it may keep. -/
inductive DS where
  | st (R : RS)
  | no (ps : List Fact)
def DS.F : DS → Fact
  | .st R => rsF R
  | .no ps => poF ps
def DS.ps : DS → List Fact
  | .st R => R.ps
  | .no ps => ps
def DS.v : DS → Value
  | .st R => ptr R.b
  | .no _ => .pointer none
def DS.more (gs : List Fact) : DS → DS
  | .st R => .st { R with ps := gs ++ R.ps }
  | .no ps => .no (gs ++ ps)
theorem stoO_own (S : Option Sto) : (stoO S).own = true := by cases S <;> rfl
theorem DS.own (D : DS) : D.F.own = true := by cases D <;> rfl
theorem DS.rd {D : DS} {w : World} (h : D.F.p w) {f : Fact} (hf : f ∈ D.ps) : f.p w := by
  cases D with
  | st R => exact rs_po h f hf
  | no ps => exact h f hf
theorem DS.more_v (gs : List Fact) (D : DS) : (D.more gs).v = D.v := by cases D <;> rfl
theorem DS.more_ps (gs : List Fact) (D : DS) : (D.more gs).ps = gs ++ D.ps := by cases D <;> rfl
/-- More rows for the pool. -/
theorem Sat.dsPo {cx : Cx} {β : Va} {n : Nat} {H : List Bk} {w : World} {D : DS} {gs : List Fact} {F : List Fact} (h : Sat cx β n H (poF gs :: D.F :: F) w) : Sat cx β n H ((D.more gs).F :: F) w := by
  cases D with
  | no ps =>
    have h1 := h.joinPo 0 1 rfl rfl
    have e : dropIx [0, 1] 2 F = F := dropIx_skip (by decide)
    refine h1.weaken (List.Sublist.refl _) ?_
    show List.Sublist (poF (gs ++ ps) :: F) (poF (gs ++ ps) :: dropIx [0, 1] 2 F)
    rw [e]
    exact List.Sublist.refl _
  | st R =>
    have h1 := h.unsep 1 rfl
    have h2 := h1.joinPo 4 3 rfl rfl
    have h3 := h2.sep [1, 2, 3, 0] rfl ⟨rfl, rfl, rfl, rfl, trivial⟩
    have e1 : dropIx [1] 2 F = F := dropIx_skip (by decide)
    have e2 : dropIx [4, 3] 5 F = F := dropIx_skip (by decide)
    have e3 : dropIx [1, 2, 3, 0] 4 F = F := dropIx_skip (by decide)
    refine h3.weaken (List.Sublist.refl _) ?_
    show List.Sublist (rsF { R with ps := gs ++ R.ps } :: F) (_ :: dropIx [1, 2, 3, 0] 4 (dropIx [4, 3] 5 (dropIx [1] 2 F)))
    rw [e1, e2, e3]
    exact List.Sublist.refl _
/-- Both are one, or both aren't there. -/
def Two : Option Sto → DS → Prop
  | some S, .st R => Jn S.a R.a ∧ R.Wf
  | none, .no _ => True
  | _, _ => False
theorem Jn.csl {X : ASto} {Y : RA} (h : Jn X Y) : Y.cs.length ≤ 256 := by
  rw [h.csp.length_eq]
  have key : ∀ ts : ATs, (∀ p ∈ ts, p.2.length ≤ 32) → (ts.flatMap (·.2)).length ≤ ts.length * 32 := by
    intro ts
    induction ts with
    | nil => intro _; exact Nat.zero_le _
    | cons p r ih =>
      intro h
      have h1 := h p List.mem_cons_self
      have h2 := ih fun q hq => h q (List.mem_cons_of_mem _ hq)
      rw [List.flatMap_cons, List.length_append, List.length_cons]
      omega
  have := key X.ts fun p hp => (h.tw p hp).len
  have := h.len
  omega
theorem Jn.rsWf {X : ASto} {R : RS} (h : Jn X R.a) (tc : R.ts.length ≤ R.tc) (lc : R.cs.length ≤ R.lc) (mem : ∀ c ∈ R.cs, inP R.ps c) : R.Wf := by
  have h1 : R.ts.length = X.ts.length := h.tlen
  have h2 := h.len
  have h3 := h.csl
  have h4 : R.a.cs.length = R.cs.length := List.length_map _
  refine ⟨tc, lc, by omega, by omega, h.tsr, mem, fun c hc => ?_⟩
  have := h.wf (c := c.a) (List.mem_map.2 ⟨c, hc, rfl⟩)
  exact ⟨this.r, this.r8⟩
theorem right_sz {a : ASec} (h : rightA a = true) : ASz a := by
  unfold rightA saltedA at h
  simp only [Bool.and_eq_true, decide_eq_true_eq] at h
  exact ⟨by omega, by omega, by omega, by omega⟩
theorem Jn.stoOk {S : Sto} {Y : RA} (h : Jn S.a Y) : StoOk S := by
  have hml := maxLen_eq
  have e0 : S.ml.map (·.1) = S.a.ts.map (·.1) := by
    show _ = (S.ts.map Ten.a).map _
    rw [Sto.ml, List.map_map, List.map_map]
    rfl
  have hl : S.ts.length = S.a.ts.length := (List.length_map _).symm
  have h8 := h.len
  refine ⟨⟨by rw [e0]; exact h.nd, fun p hp => ?_⟩, by omega, fun T hT => ?_, by rw [h.all]; have := h.csl; omega⟩
  · have : p.1 ∈ S.a.ts.map (·.1) := by rw [← e0]; exact List.mem_map.2 ⟨p, hp, rfl⟩
    obtain ⟨q, hq, e⟩ := List.mem_map.1 this
    have := (h.tw q hq).sz
    rw [← e, hml]
    omega
  · have hw := h.tw T.a (List.mem_map.2 ⟨T, hT, rfl⟩)
    have e1 : T.m.map (·.1) = T.a.2.map (·.user) := by
      show _ = (T.us.map Crd.a).map _
      rw [Ten.m, List.map_map, List.map_map]
      rfl
    have hc : ∀ c ∈ T.us, CWf T.name S.last c.a := fun c hc => hw.cs c.a (List.mem_map.2 ⟨c, hc, rfl⟩)
    have hlen : T.us.length = T.a.2.length := (List.length_map _).symm
    have h32 := hw.len
    refine ⟨⟨by rw [e1]; exact hw.nd, fun p hp => ?_⟩, by omega, fun c hcm => ⟨right_sz (hc c hcm).s, by have := (hc c hcm).r8; omega⟩⟩
    obtain ⟨c, hcm, rfl⟩ := List.mem_map.1 hp
    have := (hc c hcm).n
    have h2 := nameA_len c.user
    rw [show nameA c.user = _ from this] at h2
    rw [hml]
    show c.user.size ≤ _
    have h3 : c.user.size ≤ 32 := h2
    omega
theorem Jn.roles {X : ASto} {Y : RA} (h : Jn X Y) : RolesOk X := by
  intro t u c hc
  obtain ⟨A, B, U, V, P, Q, b⟩ := h.both hc
  exact ⟨by have := b.wf.r8; omega, b.wf.r⟩
theorem Jn.csz {X : ASto} {Y : RA} (h : Jn X Y) {t u : ByteArray} {c : ACrd} (hc : aone X t u = some c) : CSz c := by
  obtain ⟨A, B, U, V, P, Q, b⟩ := h.both hc
  exact ⟨right_sz b.wf.s, by have := b.wf.r8; omega⟩

/-! ### what a call leaves -/
def POut : Option Sto → (ASto → Int × ASto) → Int → Option Sto → Prop
  | some S, f, e, some S' => e = (f S.a).1 ∧ S'.a = (f S.a).2 ∧ S'.b = S.b
  | none, _, e, none => e = 6
  | _, _, _, _ => False
def pOut (S : Option Sto) (f : ASto → Int × ASto) (v : Value) (Fs : List Fact) : Prop := ∃ e S', v = .int .i64 e ∧ POut S f e S' ∧ Fs = [stoO S']
def ROut : DS → (RA → Int × RA) → Int → DS → Prop
  | .st R, f, e, .st R' => e = (f R.a).1 ∧ R'.a = (f R.a).2 ∧ R'.b = R.b ∧ R'.ts.length ≤ R'.tc ∧ R'.cs.length ≤ R'.lc ∧ (∀ c ∈ R'.cs, inP R'.ps c) ∧ ∀ f ∈ R.ps, f ∈ R'.ps
  | .no ps, _, e, .no ps' => e = 6 ∧ ps' = ps
  | _, _, _, _ => False
def rOut (D : DS) (f : RA → Int × RA) (v : Value) (Fs : List Fact) : Prop := ∃ e D', v = .int .i64 e ∧ ROut D f e D' ∧ Fs = [D'.F]
/-- Behind both calls both are one again, and the answers are one. -/
theorem Two.step {S S' : Option Sto} {D D' : DS} {f : ASto → Int × ASto} {g : RA → Int × RA} {e e' : Int} (h : Two S D) (hp : POut S f e S') (hr : ROut D g e' D') (hj : ∀ X Y, Jn X Y → Jn2 (f X) (g Y)) :
    e' = e ∧ Two S' D' ∧ ptrS S' = ptrS S ∧ D'.v = D.v ∧ ∀ f ∈ D.ps, f ∈ D'.ps := by
  cases S with
  | none =>
    cases D with
    | st R => exact h.elim
    | no ps =>
      cases S' with
      | some S' => exact hp.elim
      | none =>
        cases D' with
        | st R' => exact hr.elim
        | no ps' =>
          obtain ⟨rfl, rfl⟩ := hr
          obtain rfl : e = 6 := hp
          exact ⟨rfl, trivial, rfl, rfl, fun _ h => h⟩
  | some S =>
    cases D with
    | no ps => exact h.elim
    | st R =>
      cases S' with
      | none => exact hp.elim
      | some S' =>
        cases D' with
        | no ps' => exact hr.elim
        | st R' =>
          obtain ⟨hJ, hW⟩ := h
          obtain ⟨rfl, p1, p2⟩ := hp
          obtain ⟨rfl, r1, r2, r3, r4, r5, r6⟩ := hr
          obtain ⟨j1, j2⟩ := hj _ _ hJ
          rw [← p1, ← r1] at j2
          exact ⟨j1.symm, ⟨j2, j2.rsWf r3 r4 r5⟩, by show ptr S'.b = ptr S.b; rw [p2], by show ptr R'.b = ptr R.b; rw [r2], r6⟩
theorem pOut_of {S : Sto} {f : ASto → Int × ASto} {v : Value} {Fs : List Fact} (h : stoOut S (f S.a) v Fs) : pOut (some S) f v Fs := by
  obtain ⟨S', h1, h2, h3, h4⟩ := h
  exact ⟨_, some S', h1, ⟨rfl, h2, h3⟩, h4⟩
theorem rOut_of {R : RS} {f : RA → Int × RA} {v : Value} {Fs : List Fact} (h : rsOut R (f R.a) v Fs) : rOut (.st R) f v Fs := by
  obtain ⟨R', h1, h2, h3, h4, h5, h6, h7, h8⟩ := h
  exact ⟨_, .st R', h1, ⟨rfl, h2, h3, h4, h5, h6, h7⟩, h8⟩
/-- A call that only computes, told as one that takes something and hands it back. -/
theorem Pu.keep {P : Program} {k : FuncId} {args : Array Value} {w : World} {v : Value} (h : Pu P k args w v) {G : Fact} (hm : Mem w [G]) (hG : G.own = true) : Con P k args w [G] fun u Fs => u = v ∧ Fs = [G] := by
  refine Calls.mono h fun _ w' ⟨u, he, Fs, ⟨h1, h2⟩, hch, _, _, _⟩ => ⟨u, he, [G], ⟨h1, rfl⟩, ?_, ?_, ⟨hG, trivial⟩, fun f hf k hk => .inl ⟨f, hf, hk⟩⟩
  · rw [Un.nil] at hch
    exact ⟨hch.os, hch.tape, hch.output, hch.size, fun k hk hn => hch.same k hk (fun q => q.elim)⟩
  · rw [Un.nil] at hch
    refine mem_one (G.st _ _ (fun k hk => hch.same k (hm.flt G List.mem_cons_self k hk) (fun q => q.elim)) (hm.fact G List.mem_cons_self)) fun k hk => Nat.lt_of_lt_of_le (hm.flt G List.mem_cons_self k hk) hch.size
theorem pNo {f : ASto → Int × ASto} {P : Program} {k : FuncId} {args : Array Value} {w : World} (h : Pu P k args w (.int .i64 6)) : Con P k args w [noO] (pOut none f) :=
  (h.keep (G := noO) (mem_one trivial (fun k hk => hk.elim)) rfl).mono fun v Fs ⟨h1, h2⟩ => ⟨6, none, h1, rfl, h2⟩
theorem rNo {f : RA → Int × RA} {ps : List Fact} {P : Program} {k : FuncId} {args : Array Value} {w : World} (h : Pu P k args w (.int .i64 6)) (hm : Mem w [poF ps]) : Con P k args w [poF ps] (rOut (.no ps) f) :=
  (h.keep hm rfl).mono fun v Fs ⟨h1, h2⟩ => ⟨6, .no ps, h1, ⟨rfl, rfl⟩, h2⟩

/-! ### the program's calls -/
section
variable (w : World) (S : Option Sto) {D : DS} (h2 : Two S D) (t u role : ByteArray)
include h2
theorem addTenantO (ht : t.size ≤ 100000) (hm : Mem w [stoO S]) : Con Tryz.prog n_cred_Store_AddTenant #[ptrS S, .string t] w [stoO S] (pOut S (addT · t)) := by
  cases S with
  | none => exact pNo (addTenant0_c w t)
  | some S => exact (addTenant_c w S t ht hm).mono fun v Fs h => pOut_of (f := (addT · t)) h
theorem dropTenantO (hm : Mem w [stoO S]) : Con Tryz.prog n_cred_Store_DropTenant #[ptrS S, .string t] w [stoO S] (pOut S (dropT · t)) := by
  cases S with
  | none => exact pNo (dropTenant0_c w t)
  | some S => exact (dropTenant_c w S t hm).mono fun v Fs h => pOut_of (f := (dropT · t)) h
theorem addO (y : Sec) (hu : u.size ≤ 100000) (hz : ASz y.a) (hm : Mem w [stoO S, secF y.x y.a, namF]) : Con Tryz.prog n_cred_Store_Add #[ptrS S, .string t, .string u, .agg y.vs.toArray] w [stoO S] (pOut S (addU · t u y.a)) := by
  cases S with
  | none => exact pNo (add0_c w t u y)
  | some S => exact (add_c w S t u y.x y.a hu hz hm).mono fun v Fs h => pOut_of (f := (addU · t u y.a)) h
theorem changeO (y : Sec) (hu : u.size ≤ 100000) (hz : ASz y.a) (hm : Mem w [stoO S, secF y.x y.a, namF]) : Con Tryz.prog n_cred_Store_Change #[ptrS S, .string t, .string u, .agg y.vs.toArray] w [stoO S] (pOut S (chgU · t u y.a)) := by
  cases S with
  | none => exact pNo (change0_c w t u y hu (namF_T (hm.fact namF (by simp))))
  | some S => exact (change_c w S t u y.x y.a hu hz hm).mono fun v Fs h => pOut_of (f := (chgU · t u y.a)) h
theorem dropO (hu : u.size ≤ 100000) (hm : Mem w [stoO S, namF]) : Con Tryz.prog n_cred_Store_Drop #[ptrS S, .string t, .string u] w [stoO S] (pOut S (dropU · t u)) := by
  cases S with
  | none => exact pNo (drop0_c w t u hu (namF_T (hm.fact namF (by simp))))
  | some S => exact (drop_c w S t u hu hm).mono fun v Fs h => pOut_of (f := (dropU · t u)) h
theorem revokeO (on : Bool) (hu : u.size ≤ 100000) (hm : Mem w [stoO S, namF]) : Con Tryz.prog n_cred_Store_Revoke #[ptrS S, .string t, .string u, .bool on] w [stoO S] (pOut S (revU · t u on)) := by
  cases S with
  | none => exact pNo (revoke0_c w t u on hu (namF_T (hm.fact namF (by simp))))
  | some S => exact (revoke_c w S t u on hu hm).mono fun v Fs h => pOut_of (f := (revU · t u on)) h
theorem grantO (hu : u.size ≤ 100000) (hr : role.size ≤ 100000) (hm : Mem w [stoO S, namF]) : Con Tryz.prog n_cred_Store_Grant #[ptrS S, .string t, .string u, .string role] w [stoO S] (pOut S (grantG · t u role)) := by
  cases S with
  | none => exact pNo (grant0_c w t u role hu (namF_T (hm.fact namF (by simp))))
  | some S =>
    cases D with
    | no ps => exact h2.elim
    | st R => exact (grantG_c w S t u role hu hr h2.1.roles hm).mono fun v Fs h => pOut_of (f := (grantG · t u role)) h
theorem ungrantO (hu : u.size ≤ 100000) (hr : role.size ≤ 100000) (hm : Mem w [stoO S, namF]) : Con Tryz.prog n_cred_Store_Ungrant #[ptrS S, .string t, .string u, .string role] w [stoO S] (pOut S (ungrU · t u role)) := by
  cases S with
  | none => exact pNo (ungrant0_c w t u role hu (namF_T (hm.fact namF (by simp))))
  | some S =>
    cases D with
    | no ps => exact h2.elim
    | st R => exact (ungrant_c w S t u role hu hr h2.1.roles hm).mono fun v Fs h => pOut_of (f := (ungrU · t u role)) h
theorem loadO (c : Crd) (ht : c.tenant.size ≤ 100000) (hu : c.user.size ≤ 100000) (hrs : ∀ r ∈ c.roles, r.size ≤ 100000) (hrl : c.roles.length ≤ 1000) (hz : CSz c.a) (hm : Mem w [stoO S, crRd c, namF]) : Con Tryz.prog n_cred_Store_Load #[ptrS S, .agg c.vs.toArray] w [stoO S] (pOut S (loadA · c.a)) := by
  cases S with
  | none => exact pNo (load0_c w c)
  | some S => exact (load_c w S c ht hu hrs hrl hz hm).mono fun v Fs h => pOut_of (f := (loadA · c.a)) h
theorem raiseO (n : Nat) (hm : Mem w [stoO S]) : Con Tryz.prog n_cred_Store_Raise #[ptrS S, .int .u64 (n : Int)] w [stoO S] (pOut S (raiseA · n)) := by
  cases S with
  | none => exact pNo (raise0_c w n)
  | some S => exact (raise_c w S n hm).mono fun v Fs h => pOut_of (f := (raiseA · n)) h
end

/-! ### the document's calls -/
theorem DS.wf {S : Option Sto} {R : RS} (h2 : Two S (.st R)) : R.Wf := by
  cases S with
  | none => exact h2.elim
  | some S => exact h2.2
section
variable (w : World) {S : Option Sto} (D : DS) (h2 : Two S D) (t u role : ByteArray)
include h2
theorem rAddTO (ht : t.size ≤ 100000) (hm : Mem w [D.F]) : Con Tryz.prog n_ostiaryref14_AddTenant #[D.v, .string t] w [D.F] (rOut D (addTR · t)) := by
  cases D with
  | no ps => exact rNo (rAddT0_c w t) hm
  | st R => exact (rAddT_c w R t (DS.wf h2) ht hm).mono fun v Fs h => rOut_of (f := (addTR · t)) h
theorem rDropTO (hm : Mem w [D.F]) : Con Tryz.prog n_ostiaryref14_DropTenant #[D.v, .string t] w [D.F] (rOut D (dropTR · t)) := by
  cases D with
  | no ps => exact rNo (rDropT0_c w t) hm
  | st R => exact (rDropT_c w R t (DS.wf h2) hm).mono fun v Fs h => rOut_of (f := (dropTR · t)) h
theorem rAddO (y : Sec) (hy : secF y.x y.a ∈ D.ps) (hnil : rdF 1 none 0 [] ∈ D.ps) (hu : u.size ≤ 100000) (hm : Mem w [D.F]) : Con Tryz.prog n_ostiaryref14_Add #[D.v, .string t, .string u, .agg y.vs.toArray] w [D.F] (rOut D (addR · t u y.a)) := by
  cases D with
  | no ps => exact rNo (rAdd0_c w t u y) hm
  | st R => exact (rAdd_c w R t u y hy hnil (DS.wf h2) hu hm).mono fun v Fs h => rOut_of (f := (addR · t u y.a)) h
theorem rChangeO (y : Sec) (hy : secF y.x y.a ∈ D.ps) (hu : u.size ≤ 100000) (hm : Mem w [D.F]) : Con Tryz.prog n_ostiaryref14_Change #[D.v, .string t, .string u, .agg y.vs.toArray] w [D.F] (rOut D (chgR · t u y.a)) := by
  cases D with
  | no ps => exact rNo (rChange0_c w t u y hu) hm
  | st R => exact (rChange_c w R t u y hy (DS.wf h2) hu hm).mono fun v Fs h => rOut_of (f := (chgR · t u y.a)) h
theorem rDropO (hu : u.size ≤ 100000) (hm : Mem w [D.F]) : Con Tryz.prog n_ostiaryref14_Drop #[D.v, .string t, .string u] w [D.F] (rOut D (dropR · t u)) := by
  cases D with
  | no ps => exact rNo (rDrop0_c w t u hu) hm
  | st R => exact (rDrop_c w R t u (DS.wf h2) hu hm).mono fun v Fs h => rOut_of (f := (dropR · t u)) h
theorem rRevokeO (on : Bool) (hu : u.size ≤ 100000) (hm : Mem w [D.F]) : Con Tryz.prog n_ostiaryref14_Revoke #[D.v, .string t, .string u, .bool on] w [D.F] (rOut D (revR · t u on)) := by
  cases D with
  | no ps => exact rNo (rRevoke0_c w t u on hu) hm
  | st R => exact (rRevoke_c w R t u on (DS.wf h2) hu hm).mono fun v Fs h => rOut_of (f := (revR · t u on)) h
theorem rGrantO (less : Bool) (hu : u.size ≤ 100000) (hr : role.size ≤ 100000) (hm : Mem w [D.F]) : Con Tryz.prog n_ostiaryref14_Grant #[D.v, .string t, .string u, .string role, .bool less] w [D.F] (rOut D (grantR · t u role less)) := by
  cases D with
  | no ps => exact rNo (rGrant0_c w t u role less hu) hm
  | st R => exact (rGrant_c w R t u role less (DS.wf h2) hu hr hm).mono fun v Fs h => rOut_of (f := (grantR · t u role less)) h
theorem rLoadO (c : Crd) (hc : inP D.ps c) (ht : c.tenant.size ≤ 100000) (hu : c.user.size ≤ 100000) (hrs : ∀ r ∈ c.roles, r.size ≤ 100000) (hrl : c.roles.length ≤ 1000) (hm : Mem w [D.F]) : Con Tryz.prog n_ostiaryref14_Load #[D.v, .agg c.vs.toArray] w [D.F] (rOut D (loadR · c.a)) := by
  cases D with
  | no ps => exact rNo (rLoad0_c w c) hm
  | st R => exact (rLoad_c w R c hc (DS.wf h2) ht hu hrs hrl hm).mono fun v Fs h => rOut_of (f := (loadR · c.a)) h
theorem rRaiseO (n : Nat) (hm : Mem w [D.F]) : Con Tryz.prog n_ostiaryref14_Raise #[D.v, .int .u64 (n : Int)] w [D.F] (rOut D (raiseTR · n)) := by
  cases D with
  | no ps => exact rNo (rRaise0_c w n) hm
  | st R => exact (rRaise_c w R n (DS.wf h2) hm).mono fun v Fs h => rOut_of (f := (raiseTR · n)) h
end
end Go.Proofs.YtkobpamlmfpidaaGreatDoor.Sx

/- Whatever is done is seen, plainly: generations. -/
namespace Go.Proofs.YtkobpamlmfpidaaGreatDoor.Sx
open Go

/-- All of a store's credentials. -/
def crs (X : ASto) : List ACrd := X.ts.flatMap (·.2)
/-- Whoever isn't as he was has the next generation, and there is one such at most. -/
structure GenStep (X X' : ASto) : Prop where
  le : X.last ≤ X'.last
  old : ∀ c ∈ crs X', c ∈ crs X ∨ (c.gen = X.last + 1 ∧ X'.last = X.last + 1)
  one : ∀ c ∈ crs X', ∀ d ∈ crs X', c ∉ crs X → d ∉ crs X → c = d
theorem GenStep.same {X X' : ASto} (hl : X'.last = X.last) (h : ∀ c ∈ crs X', c ∈ crs X) : GenStep X X' := ⟨by omega, fun c hc => .inl (h c hc), fun c hc _ _ hn => absurd (h c hc) hn⟩
theorem GenStep.refl (X : ASto) : GenStep X X := .same rfl fun _ h => h
theorem Jn.crs {X : ASto} {Y : RA} (h : Jn X Y) {c : ACrd} (hc : c ∈ crs X) : c.gen ≤ X.last := (h.wf (h.csp.mem_iff.2 hc)).g
theorem GenStep.addT (X : ASto) (t : ByteArray) : GenStep X (addT X t).2 := by
  unfold Sx.addT
  split
  · exact .refl X
  · split
    · exact .refl X
    · split
      · exact .refl X
      · refine .same rfl fun c hc => ?_
        unfold Sx.crs at hc ⊢
        simpa [List.flatMap_append] using hc
theorem GenStep.dropT (X : ASto) (t : ByteArray) : GenStep X (dropT X t).2 := by
  unfold Sx.dropT
  cases ht : aten X.ts t with
  | none => exact .refl X
  | some us =>
    obtain ⟨A, B, e1, e2, e3⟩ := aten_some ht
    refine .same rfl fun c hc => ?_
    show c ∈ X.ts.flatMap (·.2)
    have hc' : c ∈ (atenD X.ts t).flatMap (·.2) := hc
    rw [e3] at hc'
    rw [e1]
    simp only [List.flatMap_append, List.flatMap_cons, List.mem_append] at hc' ⊢
    rcases hc' with h | h
    · exact .inl h
    · exact .inr (.inr h)
theorem mem_mid {A B : ATs} {t : ByteArray} {us : List ACrd} {c : ACrd} : c ∈ (A ++ (t, us) :: B).flatMap (·.2) ↔ c ∈ us ∨ c ∈ (A ++ B).flatMap (·.2) := by
  simp only [List.flatMap_append, List.flatMap_cons, List.mem_append]
  constructor
  · rintro (h | h | h)
    · exact .inr (.inl h)
    · exact .inl h
    · exact .inr (.inr h)
  · rintro (h | h | h)
    · exact .inr (.inl h)
    · exact .inl h
    · exact .inr (.inr h)
theorem GenStep.upd {X : ASto} {Y : RA} (h : Jn X Y) {t u : ByteArray} {c : ACrd} (hc : aone X t u = some c) (f : ACrd → ACrd) : GenStep X (updU X t u f) := by
  obtain ⟨A, B, U, V, P, Q, b⟩ := h.both hc
  have e : updU X t u f = { X with ts := A ++ (t, U ++ { f c with gen := X.last + 1 } :: V) :: B, last := X.last + 1 } := by
    unfold updU
    rw [b.upd]
  rw [e]
  have key : ∀ d ∈ crs { X with ts := A ++ (t, U ++ { f c with gen := X.last + 1 } :: V) :: B, last := X.last + 1 }, d ∈ crs X ∨ d = { f c with gen := X.last + 1 } := by
    intro d hd
    have hd' := mem_mid.1 (show d ∈ (A ++ (t, U ++ { f c with gen := X.last + 1 } :: V) :: B).flatMap (·.2) from hd)
    unfold Sx.crs
    rw [b.ts, mem_mid]
    rcases hd' with hd' | hd'
    · rcases List.mem_append.1 hd' with q | q
      · exact .inl (.inl (List.mem_append_left _ q))
      · rcases List.mem_cons.1 q with q | q
        · exact .inr q
        · exact .inl (.inl (List.mem_append_right _ (List.mem_cons_of_mem _ q)))
    · exact .inl (.inr hd')
  refine ⟨Nat.le_succ _, fun d hd => ?_, fun d hd d2 hd2 n1 n2 => ?_⟩
  · rcases key d hd with q | q
    · exact .inl q
    · exact .inr ⟨by rw [q], rfl⟩
  · rw [(key d hd).resolve_left n1, (key d2 hd2).resolve_left n2]
theorem GenStep.revoke {X : ASto} {Y : RA} (h : Jn X Y) (t u : ByteArray) (on : Bool) : GenStep X (revU X t u on).2 := by
  unfold revU
  cases hc : aone X t u with
  | none => exact .refl X
  | some c =>
    simp only
    split
    · exact .refl X
    · exact .upd h hc _
theorem GenStep.change {X : ASto} {Y : RA} (h : Jn X Y) (t u : ByteArray) (a : ASec) : GenStep X (chgU X t u a).2 := by
  unfold chgU
  cases hc : aone X t u with
  | none => exact .refl X
  | some c =>
    simp only
    split
    · exact .refl X
    · split
      · exact .refl X
      · exact .upd h hc _
theorem GenStep.grant {X : ASto} {Y : RA} (h : Jn X Y) (t u role : ByteArray) : GenStep X (grantG X t u role).2 := by
  unfold grantG
  cases hc : aone X t u with
  | none => exact .refl X
  | some c =>
    simp only
    split
    · exact .refl X
    · split
      · exact .refl X
      · split
        · exact .refl X
        · split
          · exact .refl X
          · exact .upd h hc _
theorem GenStep.ungrant {X : ASto} {Y : RA} (h : Jn X Y) (t u role : ByteArray) : GenStep X (ungrU X t u role).2 := by
  unfold ungrU
  cases hc : aone X t u with
  | none => exact .refl X
  | some c =>
    simp only
    split
    · exact .refl X
    · split
      · exact .refl X
      · split
        · exact .refl X
        · exact .upd h hc _
theorem GenStep.drop {X : ASto} {Y : RA} (h : Jn X Y) (t u : ByteArray) : GenStep X (dropU X t u).2 := by
  unfold dropU
  cases hc : aone X t u with
  | none => exact .refl X
  | some c =>
    obtain ⟨A, B, U, V, P, Q, b⟩ := h.both hc
    refine .same rfl fun d hd => ?_
    have hd' : d ∈ (atenU X.ts t (fun us => ausrD us (nameA u).1)).flatMap (·.2) := hd
    rw [b.del, mem_mid] at hd'
    unfold Sx.crs
    rw [b.ts, mem_mid]
    rcases hd' with q | q
    · refine .inl ?_
      rcases List.mem_append.1 q with q | q
      · exact List.mem_append_left _ q
      · exact List.mem_append_right _ (List.mem_cons_of_mem _ q)
    · exact .inr q
theorem GenStep.add (X : ASto) (t u : ByteArray) (a : ASec) : GenStep X (addU X t u a).2 := by
  unfold addU
  cases ht : aten X.ts t with
  | none => exact .refl X
  | some us =>
    simp only
    split
    · split
      · exact .refl X
      · split
        · exact .refl X
        · split
          · exact .refl X
          · split
            · exact .refl X
            · obtain ⟨A, B, e1, e2, e3⟩ := aten_some ht
              rw [e2]
              have key : ∀ d ∈ crs { X with ts := A ++ (t, us ++ [⟨t, (nameA u).1, a, X.last + 1, [], false⟩]) :: B, last := X.last + 1 }, d ∈ crs X ∨ d = ⟨t, (nameA u).1, a, X.last + 1, [], false⟩ := by
                intro d hd
                have hd' := mem_mid.1 (show d ∈ (A ++ (t, us ++ [⟨t, (nameA u).1, a, X.last + 1, [], false⟩]) :: B).flatMap (·.2) from hd)
                unfold Sx.crs
                rw [e1, mem_mid]
                rcases hd' with q | q
                · rcases List.mem_append.1 q with q | q
                  · exact .inl (.inl q)
                  · exact .inr (List.mem_singleton.1 q)
                · exact .inl (.inr q)
              refine ⟨Nat.le_succ _, fun d hd => ?_, fun d hd d2 hd2 n1 n2 => ?_⟩
              · rcases key d hd with q | q
                · exact .inl q
                · exact .inr ⟨by rw [q], rfl⟩
              · rw [(key d hd).resolve_left n1, (key d2 hd2).resolve_left n2]
    · exact .refl X
end Go.Proofs.YtkobpamlmfpidaaGreatDoor.Sx

/- A fact of one's own, read only. -/
namespace Go.Proofs.YtkobpamlmfpidaaGreatDoor.Sx
open Go

def roX (f : Fact) : Fact := ⟨false, f.D, f.p, f.st⟩
theorem Sat.asRo {cx : Cx} {β : Va} {n : Nat} {H : List Bk} {F : List Fact} {w : World} (h : Sat cx β n H F w) (j : Nat) {f : Fact} (hj : nth F j = some f) (ho : f.own = true := by rfl) : Sat cx β n H (putAt F j (roX f)) w :=
  h.upd hj ho (Chg.refl _ _) (show f.p w from h.get j hj) (fun _ hk => .inl hk)
/-- What can be read of it. -/
theorem Sat.ofRo {cx : Cx} {β : Va} {n : Nat} {H : List Bk} {F : List Fact} {w : World} (h : Sat cx β n H F w) (j : Nat) {f : Fact} (hj : nth F j = some (roX f)) (g : Fact) (hgo : g.own = false) (hp : g.p w) (hD : ∀ k, g.D k → f.D k) : Sat cx β n H (g :: F) w :=
  h.sub j hj rfl g hgo hp hD
theorem BIf.no {P Q : Prop} {b : Bool} (hb : b = false) (h : Q) : BIf P Q b := by subst hb; exact h
end Go.Proofs.YtkobpamlmfpidaaGreatDoor.Sx

/- Both stores: a user looked for; what is done, seen. -/
namespace Go.Proofs.YtkobpamlmfpidaaGreatDoor.Sx
open Go
attribute [local irreducible] Calls

theorem Two.more {S : Option Sto} {D : DS} (h : Two S D) (gs : List Fact) : Two S (D.more gs) := by
  cases S with
  | none => cases D with
    | st R => exact h.elim
    | no ps => trivial
  | some S => cases D with
    | no ps => exact h.elim
    | st R => exact ⟨h.1, h.1.rsWf (R := { R with ps := gs ++ R.ps }) h.2.tc h.2.lc fun c hc => ⟨List.mem_append_right _ (h.2.mem c hc).1, List.mem_append_right _ (h.2.mem c hc).2.1, (h.2.mem c hc).2.2⟩⟩
/-- What is done is seen, where nobody is loaded. -/
def GnO (d : UInt8) : Option Sto → Option Sto → Prop
  | some S, some S' => d.toNat % 15 < 13 → GenStep S.a S'.a
  | _, _ => True
theorem GnO.of {d : UInt8} {S S' : Option Sto} {D : DS} {f : ASto → Int × ASto} {e : Int} (h : Two S D) (hp : POut S f e S') (hj : d.toNat % 15 < 13 → ∀ X Y, Jn X Y → GenStep X (f X).2) : GnO d S S' := by
  cases S with
  | none => trivial
  | some S => cases S' with
    | none => trivial
    | some S' => cases D with
      | no ps => exact h.elim
      | st R =>
        intro hd
        rw [hp.2.1]
        exact hj hd _ _ h.1
/-- Something more, that is nothing. -/
theorem Con.plus {P : Program} {k : FuncId} {args : Array Value} {w : World} {Gs : List Fact} {R : Value → List Fact → Prop} (h : Con P k args w Gs R) (g : Fact) (hg : ∀ w, g.p w) (hD : ∀ k, ¬ g.D k) (ho : g.own = true) : Con P k args w Gs (fun v Fs => ∃ Fs', R v Fs' ∧ Fs = g :: Fs') :=
  Calls.mono h fun _ w' ⟨v, he, Fs, hR, hc, hm, hown, hF⟩ => ⟨v, he, g :: Fs, ⟨Fs, hR, rfl⟩, hc, ⟨fun f hf => by
    rcases List.mem_cons.1 hf with rfl | hf
    · exact hg w'
    · exact hm.fact f hf, fun f hf k hk => by
    rcases List.mem_cons.1 hf with rfl | hf
    · exact absurd hk (hD k)
    · exact hm.flt f hf k hk, List.pairwise_cons.2 ⟨fun f _ _ k hk => absurd hk (hD k), hm.sepf⟩⟩, ⟨ho, hown⟩, fun f hf k hk => by
    rcases List.mem_cons.1 hf with rfl | hf
    · exact absurd hk (hD k)
    · exact hF f hf k hk⟩
theorem nilRow_p (e size : Nat) (w : World) : (rowF e size (.slice none 0 0) 0 []).p w := ⟨by simp, .inl ⟨rfl, rfl⟩⟩
theorem find0W_c (w : World) (t u : ByteArray) : Con Tryz.prog n_cred_Store_Find #[.pointer none, .string t, .string u] w [] fun v Fs => v = .tuple #[.agg crd0.vs.toArray, .bool false] ∧ Fs = [] := by
  have g := good_cred_Store_Find w (Un [])
  refine con_of_sx (cx := cx_cred_Store_Find w (Un [])) g b_cred_Store_Find rfl rfl (β := Va.z) [.c (.v (.pointer none)), .c (.v (.string t)), .c (.v (.string u))] 0 [] [] rfl rfl (Sat.start rfl) ?_
  intro β w' hs
  exact (hs.keepB (List.nil_sublist _)).fin [] ⟨rfl, rfl⟩
/-- A user looked for. -/
def FndO (S : Option Sto) (t u : ByteArray) (c : Crd) (b : Bool) : Prop := match S with
  | some S => match b with | true => aone S.a t u = some c.a | false => aone S.a t u = none
  | none => b = false
theorem findO (w : World) (S : Option Sto) {D : DS} (h2 : Two S D) (t u : ByteArray) (hu : u.size ≤ 100000) (hm : Mem w [stoO S, namF]) :
    Con Tryz.prog n_cred_Store_Find #[ptrS S, .string t, .string u] w [stoO S] fun v Fs => ∃ (c : Crd) (b : Bool), v = .tuple #[.agg c.vs.toArray, .bool b] ∧ FndO S t u c b ∧ c.sec.stored.l.length ≤ 1000000 ∧ Fs = crdBs c ++ [stoO (S.map stoR)] := by
  have nil1 : ∀ {G : List Fact} {R : Value → List Fact → Prop} {args : Array Value} (e : Nat), Con Tryz.prog n_cred_Store_Find args w G R → Con Tryz.prog n_cred_Store_Find args w G (fun v Fs => ∃ Fs', R v Fs' ∧ Fs = rowF e 1 (.slice none 0 0) 0 [] :: Fs') :=
    fun e h => h.plus _ (fun w => nilRow_p e 1 w) (fun k hk => by cases hk) rfl
  cases S with
  | none =>
    have h0 := (find0W_c w t u)
    have h1 : Con Tryz.prog n_cred_Store_Find #[.pointer none, .string t, .string u] w [noO] fun v Fs => v = .tuple #[.agg crd0.vs.toArray, .bool false] ∧ Fs = [noO] := by
      refine Calls.mono h0 fun _ w' ⟨v, he, Fs, ⟨h1, h2⟩, hch, hmm, _, _⟩ => ⟨v, he, [noO], ⟨h1, rfl⟩, ?_, mem_one trivial (fun k hk => hk.elim), ⟨rfl, trivial⟩, fun f hf k hk => ?_⟩
      · rw [Un.nil] at hch
        exact ⟨hch.os, hch.tape, hch.output, hch.size, fun k hk hn => hch.same k hk (fun q => q.elim)⟩
      · obtain rfl := List.mem_singleton.1 hf
        exact hk.elim
    refine (nil1 ty_string (nil1 ty_uint8 (nil1 ty_uint8 (nil1 ty_uint8 (nil1 ty_uint8 h1))))).mono fun v Fs h => ?_
    obtain ⟨F1, ⟨F2, ⟨F3, ⟨F4, ⟨F5, ⟨hv, rfl⟩, rfl⟩, rfl⟩, rfl⟩, rfl⟩, rfl⟩ := h
    exact ⟨crd0, false, hv, rfl, Nat.zero_le _, rfl⟩
  | some S =>
    cases D with
    | no ps => exact h2.elim
    | st R =>
      have h0 := findW_c w S t u hu (fun a ha => h2.1.csz ha) hm
      cases ha : aone S.a t u with
      | none =>
        have h1 : Con Tryz.prog n_cred_Store_Find #[ptr S.b, .string t, .string u] w [stoF S] fun v Fs => v = .tuple #[.agg crd0.vs.toArray, .bool false] ∧ Fs = [stoF (stoR S)] := h0.mono fun v Fs h => by
          unfold findWO at h
          rw [ha] at h
          exact h
        refine (nil1 ty_string (nil1 ty_uint8 (nil1 ty_uint8 (nil1 ty_uint8 (nil1 ty_uint8 h1))))).mono fun v Fs h => ?_
        obtain ⟨F1, ⟨F2, ⟨F3, ⟨F4, ⟨F5, ⟨hv, rfl⟩, rfl⟩, rfl⟩, rfl⟩, rfl⟩, rfl⟩ := h
        exact ⟨crd0, false, hv, ha, Nat.zero_le _, rfl⟩
      | some a =>
        refine h0.mono fun v Fs h => ?_
        unfold findWO at h
        rw [ha] at h
        obtain ⟨c, hc, hv, hF⟩ := h
        exact ⟨c, true, hv, by show aone S.a t u = some c.a; rw [ha, hc], by have := (h2.1.csz ha).sec.d; rw [← hc] at this; exact this, hF⟩
/-- The document looks for a user. -/
def RndO (D : DS) (t u : ByteArray) (i : Int) : Prop := match D with
  | .st R => FindR R.cs t u i
  | .no _ => i = -1
theorem rfindO (w : World) {S : Option Sto} (D : DS) (h2 : Two S D) (t u : ByteArray) (h : D.F.p w) (hl : ∀ k, D.F.D k → k < w.heap.size) (hu : u.size ≤ 100000) :
    Con Tryz.prog n_ostiaryref14_Find #[D.v, .string t, .string u] w [] fun v Fs => ∃ i : Int, v = .int .i64 i ∧ RndO D t u i ∧ Fs = [] := by
  cases D with
  | no ps => exact (rfind0_c w t u hu).mono fun v Fs ⟨h1, h2⟩ => ⟨-1, h1, rfl, h2⟩
  | st R => exact rfind_c w R t u h hl hu (by have := (DS.wf h2).ln; omega)
/-! ### rows of one's own, read -/
theorem bs_ro {y : Sec} {w : World} (h : ∀ f ∈ y.bs, f.p w) : ∀ f ∈ [y.ha1.f, y.server.f, y.stored.f, y.salt.f], f.p w := by
  intro f hf
  simp only [List.mem_cons, List.not_mem_nil, or_false] at hf
  rcases hf with rfl | rfl | rfl | rfl
  · exact browRo (h (browF ty_uint8 y.ha1.A y.ha1.l y.ha1.c) (by simp [Sec.bs]))
  · exact browRo (h (browF ty_uint8 y.server.A y.server.l y.server.c) (by simp [Sec.bs]))
  · exact browRo (h (browF ty_uint8 y.stored.A y.stored.l y.stored.c) (by simp [Sec.bs]))
  · exact browRo (h (browF ty_uint8 y.salt.A y.salt.l y.salt.c) (by simp [Sec.bs]))
theorem bs_D {y : Sec} {w : World} (h : ∀ f ∈ y.bs, f.p w) {k : Nat} (hk : (secF y.x y.a).D k) : Un y.bs k := by
  obtain ⟨f, hf, hk⟩ := sec_rows hk
  simp only [List.mem_cons, List.not_mem_nil, or_false] at hf
  rcases hf with rfl | rfl | rfl | rfl
  · exact ⟨browF ty_uint8 y.ha1.A y.ha1.l y.ha1.c, by simp [Sec.bs], browRoD (h _ (by simp [Sec.bs])) k hk⟩
  · exact ⟨browF ty_uint8 y.server.A y.server.l y.server.c, by simp [Sec.bs], browRoD (h _ (by simp [Sec.bs])) k hk⟩
  · exact ⟨browF ty_uint8 y.stored.A y.stored.l y.stored.c, by simp [Sec.bs], browRoD (h _ (by simp [Sec.bs])) k hk⟩
  · exact ⟨browF ty_uint8 y.salt.A y.salt.l y.salt.c, by simp [Sec.bs], browRoD (h _ (by simp [Sec.bs])) k hk⟩
theorem bs_own (y : Sec) : Owns y.bs := ⟨rfl, rfl, rfl, rfl, trivial⟩
section
variable {cx : Cx} {β : Va} {n : Nat} {H : List Bk} {F : List Fact} {w : World}
/-- A secret's rows are a pool. -/
theorem Sat.toPoS (h : Sat cx β n H F w) (js : List Nat) {y : Sec} (e : takeIx F js = y.bs) (hn : nodupB js = true := by rfl) : Sat cx β n H (poF [secF y.x y.a, rdF 1 none 0 []] :: dropIx js 0 F) w := by
  have hm0 := h.mem.take hn
  rw [e] at hm0
  refine h.fuse js _ (fun w hm => ?_) (fun k hk => ?_) hn (by rw [e]; exact bs_own y)
  · rw [e] at hm
    intro f hf
    simp only [List.mem_cons, List.not_mem_nil, or_false] at hf
    rcases hf with rfl | rfl
    · exact Sec.rdR (bs_ro hm.fact)
    · exact ⟨rfl, fun q => absurd q (Nat.lt_irrefl _)⟩
  · rw [e]
    obtain ⟨f, hf, hk⟩ := hk
    simp only [List.mem_cons, List.not_mem_nil, or_false] at hf
    rcases hf with rfl | rfl
    · exact bs_D hm0.fact hk
    · obtain ⟨q, _⟩ := hk
      exact absurd q (Nat.lt_irrefl _)
/-- A secret read out of its bundle. -/
theorem Sat.secOf (h : Sat cx β n H F w) (j : Nat) {y : Sec} (hj : nth F j = some (sepF y.bs)) : Sat cx β n H (secF y.x y.a :: putAt F j (roX (sepF y.bs))) w := by
  have h1 := h.asRo j hj
  have hb := (h.get j hj).1
  have hjl : nth (putAt F j (roX (sepF y.bs))) j = some (roX (sepF y.bs)) := by
    rw [nth_eq, putAt_eq, List.getElem?_set_self]
    rw [nth_eq] at hj
    exact (List.getElem?_eq_some_iff.1 hj).1
  exact h1.ofRo j hjl (secF y.x y.a) rfl (Sec.rdR (bs_ro hb)) fun k hk => bs_D hb hk
/-- A credential's rows are a pool. -/
theorem Sat.toPoC (h : Sat cx β n H F w) (js : List Nat) {c : Crd} (e : takeIx F js = c.sec.bs ++ [srowF c.rA c.roles c.rc]) (hn : nodupB js = true := by rfl) : Sat cx β n H (poF [secF c.sec.x c.sec.a, rdF 1 c.rA c.roles.length (strs c.roles)] :: dropIx js 0 F) w := by
  have hm0 := h.mem.take hn
  rw [e] at hm0
  have hb : ∀ {w : World}, Mem w (c.sec.bs ++ [srowF c.rA c.roles c.rc]) → (∀ f ∈ c.sec.bs, f.p w) ∧ (srowF c.rA c.roles c.rc).p w := fun hm => ⟨fun f hf => hm.fact f (List.mem_append_left _ hf), hm.fact _ (by simp)⟩
  refine h.fuse js _ (fun w hm => ?_) (fun k hk => ?_) hn (by rw [e]; exact ⟨rfl, rfl, rfl, rfl, rfl, trivial⟩)
  · rw [e] at hm
    intro f hf
    simp only [List.mem_cons, List.not_mem_nil, or_false] at hf
    rcases hf with rfl | rfl
    · exact Sec.rdR (bs_ro (hb hm).1)
    · exact row_rd (hb hm).2
  · rw [e]
    obtain ⟨f, hf, hk⟩ := hk
    simp only [List.mem_cons, List.not_mem_nil, or_false] at hf
    rcases hf with rfl | rfl
    · obtain ⟨f, hf, hk⟩ := bs_D (hb hm0).1 hk
      exact ⟨f, List.mem_append_left _ hf, hk⟩
    · exact ⟨srowF c.rA c.roles c.rc, by simp, strsRowD (hb hm0).2 k hk⟩
/-- A credential read out of its rows. -/
theorem Sat.crdOf (h : Sat cx β n H F w) (js : List Nat) {c : Crd} (e : takeIx F js = c.sec.bs ++ [srowF c.rA c.roles c.rc]) (hn : nodupB js = true := by rfl) : Sat cx β n H (crRd c :: roX (poF [secF c.sec.x c.sec.a, rdF 1 c.rA c.roles.length (strs c.roles)]) :: dropIx js 0 F) w := by
  have h1 := (h.toPoC js e hn).asRo 0 rfl
  have hp := (h.toPoC js e hn).get 0 rfl
  refine h1.ofRo 0 rfl (crRd c) rfl ⟨hp (secF c.sec.x c.sec.a) (by simp), hp (rdF 1 c.rA c.roles.length (strs c.roles)) (by simp)⟩ fun k hk => ?_
  rcases hk with hk | hk
  · exact ⟨secF c.sec.x c.sec.a, by simp, hk⟩
  · exact ⟨rdF 1 c.rA c.roles.length (strs c.roles), by simp, hk⟩
end
theorem poC_D {c : Crd} {w : World} (hm : Mem w (c.sec.bs ++ [srowF c.rA c.roles c.rc])) {k : Nat} (h : (poF [secF c.sec.x c.sec.a, rdF 1 c.rA c.roles.length (strs c.roles)]).D k) : Un (c.sec.bs ++ [srowF c.rA c.roles c.rc]) k := by
  obtain ⟨f, hf, hk⟩ := h
  simp only [List.mem_cons, List.not_mem_nil, or_false] at hf
  rcases hf with rfl | rfl
  · obtain ⟨f, hf, hk⟩ := bs_D (fun f hf => hm.fact f (List.mem_append_left _ hf)) hk
    exact ⟨f, List.mem_append_left _ hf, hk⟩
  · exact ⟨srowF c.rA c.roles c.rc, by simp, strsRowD (hm.fact (srowF c.rA c.roles c.rc) (by simp)) k hk⟩
theorem DS.more_D {D : DS} {gs : List Fact} {k : Nat} (h : (D.more gs).F.D k) : (poF gs).D k ∨ D.F.D k := by
  cases D with
  | no ps =>
    obtain ⟨f, hf, hk⟩ := h
    rcases List.mem_append.1 hf with q | q
    · exact .inl ⟨f, q, hk⟩
    · exact .inr ⟨f, q, hk⟩
  | st R =>
    obtain ⟨f2, hf2, hk2⟩ := h
    simp only [RS.fs, List.mem_cons, List.not_mem_nil, or_false] at hf2
    rcases hf2 with rfl | rfl | rfl | rfl
    · exact .inr ⟨bkF R.b ty_ostiaryref14_Store R.vs, by simp [RS.fs], hk2⟩
    · exact .inr ⟨strsF R.tA R.ts, by simp [RS.fs], hk2⟩
    · exact .inr ⟨crowF R.lA R.cs R.lc, by simp [RS.fs], hk2⟩
    · obtain ⟨f3, hf3, hk3⟩ := hk2
      rcases List.mem_append.1 hf3 with q | q
      · exact .inl ⟨f3, q, hk3⟩
      · exact .inr ⟨poF R.ps, by simp [RS.fs], f3, q, hk3⟩
theorem few_sz (a : ASec) : ASz (fewA a) := by
  refine ⟨?_, ?_, ?_, ?_⟩ <;> show (List.take 40 _).length ≤ _ <;> rw [List.length_take] <;> omega
theorem cut40_sz (s : ByteArray) : (cut40 s).size ≤ 40 := by
  unfold cut40
  rw [ByteArray.size_extract]
  omega
theorem fewC_sz (a : ACrd) : CSz (fewCA a) := ⟨few_sz a.sec, by show ((a.roles.take 10).map cut40).length ≤ _; rw [List.length_map, List.length_take]; omega⟩
theorem fewC_ro (a : ACrd) : (∀ r ∈ (fewCA a).roles, r.size ≤ 100000) ∧ (fewCA a).roles.length ≤ 1000 := by
  refine ⟨fun r hr => ?_, by show ((a.roles.take 10).map cut40).length ≤ _; rw [List.length_map, List.length_take]; omega⟩
  obtain ⟨s, _, rfl⟩ := List.mem_map.1 (show r ∈ (a.roles.take 10).map cut40 from hr)
  have := cut40_sz s
  omega
set_option maxHeartbeats 1000000 in
theorem own14_c (w : World) (c : Crd) : Pu Tryz.prog n_ostiarylaw14_own #[.agg c.vs.toArray] w (.agg c.vs.toArray) := by
  have g := good_ostiarylaw14_own w (Un [])
  refine con_of_sx (cx := cx_ostiarylaw14_own w (Un [])) g b_ostiarylaw14_own rfl rfl (β := Va.z) [.agg c.ss] 0 [] [] rfl rfl (Sat.start rfl) ?_
  intro β w' hs
  exact (hs.keepB (List.nil_sublist _)).fin [] ⟨rfl, rfl⟩
end Go.Proofs.YtkobpamlmfpidaaGreatDoor.Sx

/- Bytes flipped. -/
namespace Go.Proofs.YtkobpamlmfpidaaGreatDoor.Sx
open Go
attribute [local irreducible] Calls

theorem u8_bits (op : BinOp) (x y : Int) : ∃ b : UInt8, bits op .u8 x y = (b.toNat : Int) := by
  have h : ∀ z : Int, ∃ b : UInt8, IntKind.u8.wrap z = (b.toNat : Int) := fun z => by
    refine ⟨UInt8.ofNat (z % 256).toNat, ?_⟩
    rw [UInt8.toNat_ofNat', wrap_u8]
    omega
  unfold bits
  split <;> exact h _
/-- All bytes are turned in place. -/
theorem flip_c (w : World) (A : Option Addr) (l : List UInt8) (c : Nat) (hm : Mem w [browF ty_uint8 A l c]) (hn : l.length ≤ lim) :
    Con Tryz.prog n_ostiaryref01_Flip #[.slice A l.length c] w [browF ty_uint8 A l c] (fun _ Fs => ∃ l', l'.length = l.length ∧ Fs = [browF ty_uint8 A l' c]) := by
  have g := good_ostiaryref01_Flip w (Un [browF ty_uint8 A l c])
  refine con_of_sx (cx := cx_ostiaryref01_Flip w (Un [browF ty_uint8 A l c])) g b_ostiaryref01_Flip rfl rfl (β := Va.z) [.c (.v (.slice A l.length c))] 0 [] [browF ty_uint8 A l c] rfl rfl (hm.sat0 rfl (fun f hf _ k hk => ⟨f, hf, hk⟩)) ?_
  rw [lim_eq] at hn
  have hA : 0 < l.length → ∃ b, A = some ⟨b, 0, none⟩ := fun h0 => by
    rcases (hm.fact (browF ty_uint8 A l c) List.mem_cons_self).2 with ⟨_, q⟩ | ⟨g, cap, cur, hv, _⟩
    · omega
    · exact ⟨g, by injection hv⟩
  refine loop_rule (ι := List UInt8 × Nat) 0 (fun i => [(0, .c (.v (.slice A l.length c))), (4, .c (.v (.int .i64 (l.length : Int)))), (5, .c (.v (.int .i64 (i.2 : Int))))]) (fun _ => []) (fun i => [rowF ty_uint8 1 (.slice A l.length c) l.length (i.1.map byte)])
    (fun i => i.1.length = l.length ∧ i.2 ≤ l.length) (fun i => l.length - i.2) (l, 0) ⟨rfl, Nat.zero_le _⟩ (Ent.same ⟨rfl, rfl, rfl, trivial⟩ rfl) g ?_
  rintro ⟨p, i⟩ ⟨hpl, hi⟩
  simp only at hpl hi
  refine BIf.dec (fun h0 => ?_) (fun h0 => ?_)
  · have hi' : i < l.length := by omega
    obtain ⟨b, rfl⟩ := hA (by omega)
    have hip : i < p.length := by omega
    obtain ⟨y, hy⟩ := u8_bits .xor (p[i].toNat : Int) 90
    refine ⟨_, i, rfl, rfl, hi', byte p[i], fun β w hs => ?_, ?_⟩
    · have h1 : Rd 1 (some ⟨b, 0, none⟩) l.length (p.map byte) w := row_rd (hs.get 0 rfl)
      rw [← hpl] at h1
      exact Bs.cell h1 rfl hip
    refine ⟨_, hy, ?_⟩
    refine ⟨_, i, rfl, rfl, hi', ?_⟩
    refine ⟨_, fun β w hs => hs.rowSet (j := 0) (us := [byte y]) rfl (by show i * 1 + 1 ≤ l.length * 1; omega) (fun u hu => by obtain rfl := List.mem_singleton.1 hu; rfl), ?_⟩
    refine ⟨((i + 1 : Nat) : Int), by rw [wrap_i64] <;> omega, ?_⟩
    refine ⟨(p.set i y, i + 1), ⟨by simp [hpl], hi'⟩, by show l.length - (i + 1) < l.length - i; omega, ?_⟩
    have e : putAll (p.map byte) (i * 1) [byte y] = (p.set i y).map byte := by rw [putAll, putAll, putAt_eq, Nat.mul_one, List.map_set]
    show Ent _ _ _ _ (rowF _ _ _ _ (putAll (p.map byte) (i * 1) [byte y]) :: _) _ _ _ _
    rw [e]
    exact Ent.same ⟨rfl, rfl, rfl, trivial⟩ rfl
  · intro β w' hs
    exact hs.fin [0] ⟨p, hpl, by show _ = [rowF _ _ _ _ _]; rw [← hpl]; rfl⟩

end Go.Proofs.YtkobpamlmfpidaaGreatDoor.Sx

/- Two credentials compared. -/
namespace Go.Proofs.YtkobpamlmfpidaaGreatDoor.Sx
open Go
attribute [local irreducible] Calls

theorem rsameS_c (w : World) (x y : Sec) (hx : SRd x.x x.a w) (hy : SRd y.x y.a w) : Con Tryz.prog n_ostiaryref14_SameSecret #[.agg x.vs.toArray, .agg y.vs.toArray] w [] fun v Fs => ∃ b : Bool, v = .bool b ∧ (b = true ↔ x.a = y.a) ∧ Fs = [] := by
  have h := sameSecret_c w ⟨x.salt.A, x.stored.A, x.server.A, x.ha1.A, x.salt.c, x.stored.c, x.server.c, x.ha1.c, x.salt.l, x.stored.l, x.server.l, x.ha1.l, x.iter⟩ ⟨y.salt.A, y.stored.A, y.server.A, y.ha1.A, y.salt.c, y.stored.c, y.server.c, y.ha1.c, y.salt.l, y.stored.l, y.server.l, y.ha1.l, y.iter⟩ ⟨hx.r1, hx.r2, hx.r3, hx.r4⟩ ⟨hy.r1, hy.r2, hy.r3, hy.r4⟩
  refine Con.mono h fun v Fs ⟨hv, hF⟩ => ⟨_, hv, ?_, hF⟩
  rw [decide_eq_true_iff]
  constructor
  · rintro ⟨h1, h2, h3, h4, h5⟩
    show ASec.mk _ _ _ _ _ = ASec.mk _ _ _ _ _
    rw [show x.salt.l = y.salt.l from h1, show x.iter = y.iter from h2, show x.stored.l = y.stored.l from h3, show x.server.l = y.server.l from h4, show x.ha1.l = y.ha1.l from h5]
  · intro h
    exact ⟨congrArg ASec.salt h, congrArg ASec.iter h, congrArg ASec.stored h, congrArg ASec.server h, congrArg ASec.ha1 h⟩
theorem ACrd.eqs {c d : ACrd} (h1 : c.tenant = d.tenant) (h2 : c.user = d.user) (h3 : c.sec = d.sec) (h4 : c.gen = d.gen) (h5 : c.revoked = d.revoked) (h6 : c.roles = d.roles) : c = d := by
  cases c
  cases d
  simp only at h1 h2 h3 h4 h5 h6
  rw [h1, h2, h3, h4, h5, h6]
set_option maxHeartbeats 1000000 in
theorem rSame_c (w : World) (c d : Crd) (hc : SRd c.sec.x c.sec.a w) (hcr : Rd 1 c.rA c.roles.length (strs c.roles) w) (hd : SRd d.sec.x d.sec.a w) (hdr : Rd 1 d.rA d.roles.length (strs d.roles) w) (hn : c.roles.length ≤ 1000) :
    Con Tryz.prog n_ostiaryref14_Same #[.agg c.vs.toArray, .agg d.vs.toArray] w [] fun v Fs => ∃ b : Bool, v = .bool b ∧ (b = true ↔ c.a = d.a) ∧ Fs = [] := by
  have g := good_ostiaryref14_Same w (Un [])
  refine con_of_sx (cx := cx_ostiaryref14_Same w (Un [])) g b_ostiaryref14_Same rfl rfl (β := Va.z) [.agg c.ss, .agg d.ss] 0 [] [oldF w] rfl rfl (old_sat rfl) ?_
  have no : ∀ {β n H w'}, ¬ c.a = d.a → Sat (cx_ostiaryref14_Same w (Un [])) β n H [oldF w] w' → Fin w [] (fun v Fs => ∃ b : Bool, v = .bool b ∧ (b = true ↔ c.a = d.a) ∧ Fs = []) (.bool false) w' :=
    fun hne hs => (hs.keepB (List.nil_sublist _)).fin [] ⟨false, rfl, ⟨fun h => (by cases h), fun h => absurd h hne⟩, rfl⟩
  refine BIf.not (BIf.dec (fun h1 => ?_) (fun h1 => ?_))
  rotate_left
  · have h10 : ¬ c.tenant = d.tenant := h1
    intro β w' hs
    exact no (fun h => h10 (congrArg ACrd.tenant h)) hs
  have h10 : c.tenant = d.tenant := h1
  refine BIf.not (BIf.dec (fun h2 => ?_) (fun h2 => ?_))
  rotate_left
  · have h20 : ¬ c.user = d.user := h2
    intro β w' hs
    exact no (fun h => h20 (congrArg ACrd.user h)) hs
  have h20 : c.user = d.user := h2
  refine call_con [] (fun β w' hs => rsameS_c w' c.sec d.sec (hc.old (hs.get 0 rfl)) (hd.old (hs.get 0 rfl))) ?_
  rintro v Fs ⟨b, rfl, hb, rfl⟩
  cases b with
  | false =>
    intro β w' hs
    exact no (fun h => by cases hb.2 (congrArg ACrd.sec h)) hs
  | true =>
  have h30 : c.sec.a = d.sec.a := hb.1 rfl
  refine BIf.not (BIf.dec (fun h4 => ?_) (fun h4 => ?_))
  rotate_left
  · have h40 : ¬ (c.gen : Int) = (d.gen : Int) := h4
    intro β w' hs
    exact no (fun h => h40 (by rw [show c.gen = d.gen from congrArg ACrd.gen h])) hs
  have h40 : (c.gen : Int) = (d.gen : Int) := h4
  obtain ⟨bq, hbq⟩ : ∃ b, (c.revoked == d.revoked) = b := ⟨_, rfl⟩
  conv => whnf
  rw [hbq]
  cases bq with
  | false =>
    have h50 : ¬ c.revoked = d.revoked := fun h => by rw [h] at hbq; simp at hbq
    intro β w' hs
    exact no (fun h => h50 (congrArg ACrd.revoked h)) hs
  | true =>
  have h50 : c.revoked = d.revoked := eq_of_beq hbq
  refine BIf.not (BIf.dec (fun h6 => ?_) (fun h6 => ?_))
  rotate_left
  · have h60 : ¬ (c.roles.length : Int) = (d.roles.length : Int) := h6
    intro β w' hs
    exact no (fun h => h60 (by rw [show c.roles = d.roles from congrArg ACrd.roles h])) hs
  have h60 : (c.roles.length : Int) = (d.roles.length : Int) := h6
  refine loop_rule 2 (fun i : Nat => [(2, .c (.p 0 0)), (3, .c (.p 1 0)), (51, .c (.v (.int .i64 (c.roles.length : Int)))), (52, .c (.v (.int .i64 (i : Int))))]) (fun _ => [⟨1, ty_ostiaryref14_Cred, d.ss⟩, ⟨0, ty_ostiaryref14_Cred, c.ss⟩]) (fun _ => [oldF w])
    (fun i => i ≤ c.roles.length ∧ c.roles.take i = d.roles.take i) (fun i => c.roles.length - i) 0 ⟨Nat.zero_le _, rfl⟩ (Ent.same ⟨rfl, rfl, rfl, rfl, trivial⟩ rfl) g ?_
  rintro i ⟨hi, hpre⟩
  refine BIf.dec (fun hlt => ?_) (fun hge => ?_)
  · have hlt0 : (i : Int) < c.roles.length := hlt
    obtain ⟨y, hy, hym⟩ := at_lt (show i < c.roles.length by omega)
    obtain ⟨z, hz, hzm⟩ := at_lt (show i < d.roles.length by omega)
    obtain ⟨ad, hA, _⟩ := hcr.2 (by omega)
    obtain ⟨ae, hE, _⟩ := hdr.2 (by omega)
    refine draw_rule g p_ostiaryref14_Same_6 (by kernel_rfl) [⟨1, ty_ostiaryref14_Cred, d.ss⟩, ⟨0, ty_ostiaryref14_Cred, c.ss⟩] [oldF w] (subPerm [0]) ?_
    refine ⟨ad, i, hA, rfl, by omega, .string y, fun β w' hs => Rd.cell1 (by have h := Rd.old hcr (hs.get 0 rfl); rw [hA] at h; exact h) (by simp [strs, hy]), ?_⟩
    refine ⟨ae, i, hE, rfl, by omega, .string z, fun β w' hs => Rd.cell1 (by have h := Rd.old hdr (hs.get 0 rfl); rw [hE] at h; exact h) (by simp [strs, hz]), ?_⟩
    refine BIf.not (BIf.dec (fun h7 => ?_) (fun h7 => ?_))
    · have h70 : y = z := h7
      refine ⟨((i + 1 : Nat) : Int), by rw [wrap_i64 (by omega) (by omega)]; rfl, ?_⟩
      exact ⟨i + 1, ⟨by omega, by rw [List.take_add_one, List.take_add_one, hpre, hy, hz, h70]⟩, by omega, Ent.same ⟨rfl, rfl, rfl, rfl, trivial⟩ rfl⟩
    · have h70 : ¬ y = z := h7
      intro β w' hs
      exact no (fun h => h70 (by
        have h8 : c.roles = d.roles := congrArg ACrd.roles h
        rw [h8, hz] at hy
        exact (Option.some.inj hy).symm)) hs
  · have hge0 : ¬ (i : Int) < c.roles.length := hge
    rw [List.take_of_length_le (by omega), List.take_of_length_le (by omega)] at hpre
    intro β w' hs
    exact (hs.keepB (List.nil_sublist _)).fin [] ⟨true, rfl, ⟨fun _ => ACrd.eqs h10 h20 h30 (by show c.gen = d.gen; omega) h50 hpre, fun _ => rfl⟩, rfl⟩
end Go.Proofs.YtkobpamlmfpidaaGreatDoor.Sx

/- The law's call on both stores. -/
namespace Go.Proofs.YtkobpamlmfpidaaGreatDoor.Sx
open Go
attribute [local irreducible] Calls

structure OpC where
  d : UInt8
  t : ByteArray
  u : ByteArray
  r : ByteArray
  on : Bool
  x : Sec
  c : Crd
def OpC.cells (o : OpC) : List Value := [.int .u8 o.d.toNat, .string o.t, .string o.u, .string o.r, .bool o.on] ++ (o.x.vs ++ o.c.vs)
structure Sec.Cap (x : Sec) : Prop where
  c1 : x.salt.l.length ≤ x.salt.c
  c2 : x.stored.l.length ≤ x.stored.c
  c3 : x.server.l.length ≤ x.server.c
  c4 : x.ha1.l.length ≤ x.ha1.c
/-- What may be handed in. -/
structure OpC.Ok (o : OpC) : Prop where
  t : o.t.size ≤ maxLen
  u : o.u.size ≤ maxLen
  r : o.r.size ≤ maxLen
  x : o.x.Cap
  c : o.c.sec.Cap
  ct : o.c.tenant.size ≤ maxLen
  cu : o.c.user.size ≤ maxLen
  cr : ∀ r ∈ o.c.roles, r.size ≤ maxLen
  cl : o.c.roles.length ≤ maxLen
  g0 : o.c.gen < 18446744073709551616
def doOut (S : Option Sto) (D : DS) (d : UInt8) (v : Value) (Fs : List Fact) : Prop := ∃ S' D', v = .bool true ∧ Two S' D' ∧ ptrS S' = ptrS S ∧ D'.v = D.v ∧ GnO d S S' ∧ Fs = [stoO S', D'.F]
set_option maxHeartbeats 4000000 in
theorem do14_c (w : World) (S : Option Sto) (D : DS) (o : OpC) (h2 : Two S D) (hok : o.Ok) (hm : Mem w [stoO S, D.F, secF o.x.x o.x.a, crRd o.c, namF]) :
    Con Tryz.prog n_ostiarylaw14_do #[ptrS S, D.v, .agg o.cells.toArray] w [stoO S, D.F] (doOut S D o.d) := by
  have g := good_ostiarylaw14_do w (Un [stoO S, D.F])
  obtain ⟨d, t, u, r, on, x, c⟩ := o
  obtain ⟨k1, k2, k3, k4, k5, k6, k7, k8, k9, k10⟩ := hok
  simp only at k1 k2 k3 k4 k5 k6 k7 k8 k9 k10
  have hm : Mem w ([stoO S, D.F] ++ [secF x.x x.a, crRd c, namF]) := hm
  refine con_of_tri (cx := cx_ostiarylaw14_do w (Un [stoO S, D.F])) g b_ostiarylaw14_do rfl rfl (β := Va.z) [.c (.v (ptrS S)), .c (.v D.v), .agg ([.v (.int .u8 (d.toNat : Int)), .v (.string t), .v (.string u), .v (.string r), .v (.bool on)] ++ (x.x.ss ++ c.ss))] 0 [] _ rfl rfl (hm.sat0 rfl (ownIn (Gs := [stoO S, D.F]) (fun f hf => by
    simp only [List.mem_cons, List.not_mem_nil, or_false] at hf
    rcases hf with rfl | rfl | rfl <;> rfl))) ?_
  have hml := maxLen_eq
  refine tri_seq g ?_
  obtain ⟨ob, hob⟩ : ∃ ob : List SL, [SL.v (Value.int IntKind.u8 d.toNat), SL.v (Value.string t), SL.v (Value.string u), SL.v (Value.string r), SL.v (Value.bool on)] ++ (x.x.ss ++ c.ss) = ob := ⟨_, rfl⟩
  refine tri_seqJ (ι := Sec) g (fun y => y.a = fewA x.a) 2 (fun y => [(0, .c (.v (ptrS S))), (1, .c (.v D.v)), (5, .c (.p 0 0)), (7, .c (.v (.string (cut40 t)))), (8, .c (.v (.string (cut40 u)))), (9, .c (.v (.string (cut40 r)))), (10, .c (.p 1 0))])
    (fun y => [⟨1, ty_ostiaryref14_Secret, y.x.ss⟩, ⟨0, ty_ostiarylaw14_Op, [SL.v (Value.int IntKind.u8 d.toNat), SL.v (Value.string t), SL.v (Value.string u), SL.v (Value.string r), SL.v (Value.bool on)] ++ (x.x.ss ++ c.ss)⟩]) (fun y => y.bs ++ [stoO S, D.F, secF x.x x.a, crRd c, namF]) ?_ ?_
  rotate_left
  · refine draw_rule g p_ostiarylaw14_do_1 (by kernel_rfl) [⟨0, ty_ostiarylaw14_Op, [SL.v (Value.int IntKind.u8 d.toNat), SL.v (Value.string t), SL.v (Value.string u), SL.v (Value.string r), SL.v (Value.bool on)] ++ (x.x.ss ++ c.ss)⟩] [secF x.x x.a] (fun β w hs => hs.perm [2]) ?_
    refine ⟨?_, ?_⟩
    · skip
      refine call_pu (v := .string (cut40 t)) (fun β w' hs => by have h := cutText_c w' t 40 k1 (by decide); exact h) ?_
      refine ⟨fun β w hs => hs.perm [2], ?_⟩
      refine ⟨?_, ?_⟩
      · skip
        refine call_pu (v := .string (cut40 u)) (fun β w' hs => by have h := cutText_c w' u 40 k2 (by decide); exact h) ?_
        refine ⟨fun β w hs => hs.perm [2], ?_⟩
        refine ⟨?_, ?_⟩
        · skip
          refine call_pu (v := .string (cut40 r)) (fun β w' hs => by have h := cutText_c w' r 40 k3 (by decide); exact h) ?_
          refine ⟨fun β w hs => hs.perm [2], ?_⟩
          refine ⟨?_, ?_⟩
          · skip
            refine call_con [] (fun β w' hs => rFew_c w' x (hs.get 2 rfl) k4.c1 k4.c2 k4.c3 k4.c4) ?_
            rintro v Fs ⟨y, rfl, hy, rfl⟩
            refine ⟨fun β w hs => hs.perm [6], ?_⟩
            refine ⟨fun β w hs => (hs.keepB (List.sublist_cons_self _ _)).perm [6], ?_⟩
            refine ⟨fun β w hs => (hs.keepB (List.sublist_cons_self _ _)).perm [6], ?_⟩
            exact EntX.of y hy (Ent.mk' ⟨rfl, rfl, rfl, rfl, rfl, rfl, rfl, trivial⟩ rfl (fun β w' hs => hs))
          · skip
            refine ⟨fun β w hs => (hs.keepB (List.sublist_cons_self _ _)).perm [2], ?_⟩
            refine call_con [] (fun β w' hs => rFew_c w' x (hs.get 2 rfl) k4.c1 k4.c2 k4.c3 k4.c4) ?_
            rintro v Fs ⟨y, rfl, hy, rfl⟩
            refine ⟨fun β w hs => (hs.keepB (List.sublist_cons_self _ _)).perm [6], ?_⟩
            refine ⟨fun β w hs => (hs.keepB (List.sublist_cons_self _ _)).perm [6], ?_⟩
            exact EntX.of y hy (Ent.mk' ⟨rfl, rfl, rfl, rfl, rfl, rfl, rfl, trivial⟩ rfl (fun β w' hs => hs))
        · skip
          refine ⟨fun β w hs => (hs.keepB (List.sublist_cons_self _ _)).perm [2], ?_⟩
          refine call_pu (v := .string (cut40 r)) (fun β w' hs => by have h := cutText_c w' r 40 k3 (by decide); exact h) ?_
          refine ⟨fun β w hs => (hs.keepB (List.sublist_cons_self _ _)).perm [2], ?_⟩
          refine call_con [] (fun β w' hs => rFew_c w' x (hs.get 2 rfl) k4.c1 k4.c2 k4.c3 k4.c4) ?_
          rintro v Fs ⟨y, rfl, hy, rfl⟩
          refine ⟨fun β w hs => (hs.keepB (List.sublist_cons_self _ _)).perm [6], ?_⟩
          refine ⟨fun β w hs => (hs.keepB (List.sublist_cons_self _ _)).perm [6], ?_⟩
          exact EntX.of y hy (Ent.mk' ⟨rfl, rfl, rfl, rfl, rfl, rfl, rfl, trivial⟩ rfl (fun β w' hs => hs))
      · skip
        refine ⟨fun β w hs => (hs.keepB (List.sublist_cons_self _ _)).perm [2], ?_⟩
        refine call_pu (v := .string (cut40 u)) (fun β w' hs => by have h := cutText_c w' u 40 k2 (by decide); exact h) ?_
        refine ⟨fun β w hs => (hs.keepB (List.sublist_cons_self _ _)).perm [2], ?_⟩
        refine call_pu (v := .string (cut40 r)) (fun β w' hs => by have h := cutText_c w' r 40 k3 (by decide); exact h) ?_
        refine ⟨fun β w hs => (hs.keepB (List.sublist_cons_self _ _)).perm [2], ?_⟩
        refine call_con [] (fun β w' hs => rFew_c w' x (hs.get 2 rfl) k4.c1 k4.c2 k4.c3 k4.c4) ?_
        rintro v Fs ⟨y, rfl, hy, rfl⟩
        refine ⟨fun β w hs => (hs.keepB (List.sublist_cons_self _ _)).perm [6], ?_⟩
        refine ⟨fun β w hs => (hs.keepB (List.sublist_cons_self _ _)).perm [6], ?_⟩
        exact EntX.of y hy (Ent.mk' ⟨rfl, rfl, rfl, rfl, rfl, rfl, rfl, trivial⟩ rfl (fun β w' hs => hs))
    · skip
      refine ⟨fun β w hs => (hs.keepB (List.sublist_cons_self _ _)).perm [2], ?_⟩
      refine call_pu (v := .string (cut40 t)) (fun β w' hs => by have h := cutText_c w' t 40 k1 (by decide); exact h) ?_
      refine ⟨fun β w hs => (hs.keepB (List.sublist_cons_self _ _)).perm [2], ?_⟩
      refine call_pu (v := .string (cut40 u)) (fun β w' hs => by have h := cutText_c w' u 40 k2 (by decide); exact h) ?_
      refine ⟨fun β w hs => (hs.keepB (List.sublist_cons_self _ _)).perm [2], ?_⟩
      refine call_pu (v := .string (cut40 r)) (fun β w' hs => by have h := cutText_c w' r 40 k3 (by decide); exact h) ?_
      refine ⟨fun β w hs => (hs.keepB (List.sublist_cons_self _ _)).perm [2], ?_⟩
      refine call_con [] (fun β w' hs => rFew_c w' x (hs.get 2 rfl) k4.c1 k4.c2 k4.c3 k4.c4) ?_
      rintro v Fs ⟨y, rfl, hy, rfl⟩
      refine ⟨fun β w hs => (hs.keepB (List.sublist_cons_self _ _)).perm [6], ?_⟩
      refine ⟨fun β w hs => (hs.keepB (List.sublist_cons_self _ _)).perm [6], ?_⟩
      exact EntX.of y hy (Ent.mk' ⟨rfl, rfl, rfl, rfl, rfl, rfl, rfl, trivial⟩ rfl (fun β w' hs => hs))
  rintro y hy
  refine tri_seq g ?_
  refine call_con [] (fun β w' hs => rFew_c w' x (hs.get 6 rfl) k4.c1 k4.c2 k4.c3 k4.c4) ?_
  rintro v Fs ⟨z, rfl, hz, rfl⟩
  refine tri_seq g ?_
  obtain ⟨D1, hD1⟩ : ∃ D1, D1 = D.more [secF y.x y.a, rdF 1 none 0 []] := ⟨_, rfl⟩
  have hD0 : D.F.p w := hm.fact D.F (by simp)
  have hrd0 : ∀ R, D1 = .st R → Rd 10 R.lA R.cs.length (R.cs.flatMap Crd.vs) w := by
    intro R hR
    rw [hD1] at hR
    cases D with
    | no ps => cases hR
    | st R0 =>
      injection hR with hR
      rw [← hR]
      exact rs_rd (R := R0) hD0
  have h3 : Two S D1 := by rw [hD1]; exact h2.more _
  have hv1 : D1.v = D.v := by rw [hD1, DS.more_v]
  have hy1 : secF y.x y.a ∈ D1.ps := by rw [hD1, DS.more_ps]; simp
  have hn1 : rdF 1 none 0 [] ∈ D1.ps := by rw [hD1, DS.more_ps]; simp
  refine tri_join (ι := Unit) (fun _ => True) 3 (fun _ => [(0, .c (.v (ptrS S))), (1, .c (.v D1.v)), (5, .c (.p 0 0)), (7, .c (.v (.string (cut40 t)))), (8, .c (.v (.string (cut40 u)))), (9, .c (.v (.string (cut40 r)))), (10, .c (.p 1 0)), (11, .c (.p 2 0)), (12, .c (.v (.bool true)))])
    (fun _ => [⟨2, ty_cred_Secret, z.x.ss⟩, ⟨1, ty_ostiaryref14_Secret, y.x.ss⟩, ⟨0, ty_ostiarylaw14_Op, [SL.v (Value.int IntKind.u8 d.toNat), SL.v (Value.string t), SL.v (Value.string u), SL.v (Value.string r), SL.v (Value.bool on)] ++ (x.x.ss ++ c.ss)⟩]) (fun _ => [stoO S, D1.F, sepF z.bs, secF x.x x.a, crRd c, namF]) ?_ (EntX.of () trivial (Ent.mk' ⟨rfl, by rw [hv1]; rfl, rfl, rfl, rfl, rfl, rfl, rfl, rfl, trivial⟩ rfl (fun β w' hs => by
      have k1 := (hs.toPoS [4, 5, 6, 7] rfl).sep [1, 2, 3, 4] rfl ⟨rfl, rfl, rfl, rfl, trivial⟩
      have k2 := (k1.perm [1, 3, 2, 0, 4, 5, 6]).dsPo
      rw [← hD1] at k2
      exact k2.perm [1, 0, 2, 3, 4, 5])))
  rintro ⟨⟩ -
  simp only
  have ct := cut40_sz t
  have cu := cut40_sz u
  have cr := cut40_sz r
  generalize cut40 t = t0 at ct ⊢
  generalize cut40 u = u0 at cu ⊢
  generalize cut40 r = r0 at cr ⊢
  refine tri_seqJ (ι := Option Sto × DS) g (fun i => Two i.1 i.2 ∧ ptrS i.1 = ptrS S ∧ i.2.v = D.v ∧ GnO d S i.1 ∧ secF y.x y.a ∈ i.2.ps) 3 (fun _ => [(10, .c (.p 1 0)), (11, .c (.p 2 0)), (12, .c (.v (.bool true)))])
    (fun _ => [⟨2, ty_cred_Secret, z.x.ss⟩, ⟨1, ty_ostiaryref14_Secret, y.x.ss⟩]) (fun i => [stoO i.1, i.2.F, sepF z.bs]) ?_ ?_
  · rintro ⟨S', D'⟩ ⟨q1, q2, q3, q4, q5⟩
    simp only at q1 q2 q3 q4 q5
    refine tri_seq g ?_
    refine draw_rule g p_ostiarylaw14_do_34 (by kernel_rfl) [⟨2, ty_cred_Secret, z.x.ss⟩, ⟨1, ty_ostiaryref14_Secret, y.x.ss⟩] [] (fun β w hs => hs.perm []) ?_
    refine call_pu (fun β w' hs => secret14_c w' z) ?_
    refine ⟨fun β w hs => hs.perm [], ?_⟩
    refine call_con [] (fun β w' hs => rsameS_c w' z y (Sec.rdR (bs_ro (hs.get 2 rfl).1)) (DS.rd (hs.get 1 rfl) q5)) ?_
    rintro v Fs ⟨b, rfl, hb, rfl⟩
    obtain rfl : b = true := hb.2 (hz.trans hy.symm)
    refine ⟨fun β w hs => hs.perm [], ?_⟩
    refine tri_join (ι := Unit) (fun _ => True) 3 (fun _ => [(11, .c (.p 2 0)), (12, .c (.v (.bool true)))]) (fun _ => [⟨2, ty_cred_Secret, z.x.ss⟩]) (fun _ => z.bs ++ [stoO S', D'.F]) ?_ (EntX.of () trivial (Ent.mk' ⟨rfl, rfl, trivial⟩ rfl (fun β w' hs => (hs.keepB (List.Sublist.cons_cons _ (List.nil_sublist _))).unsep 2 rfl)))
    rintro ⟨⟩ -
    refine tri_of g ?_
    have hz1 : z.stored.l.length ≤ 1000 := by rw [show z.stored.l = (fewA x.a).stored from congrArg ASec.stored hz]; show (List.take 40 _).length ≤ _; rw [List.length_take]; omega
    have hz2 : z.salt.l.length ≤ 1000 := by rw [show z.salt.l = (fewA x.a).salt from congrArg ASec.salt hz]; show (List.take 40 _).length ≤ _; rw [List.length_take]; omega
    refine call_con [2] (fun β w' hs => flip_c w' z.stored.A z.stored.l z.stored.c (hs.mem.take (js := [2]) rfl) (by rw [lim_eq]; omega)) ?_
    rintro v Fs ⟨l1, hl1, rfl⟩
    refine call_con [3] (fun β w' hs => flip_c w' z.salt.A z.salt.l z.salt.c (hs.mem.take (js := [3]) rfl) (by rw [lim_eq]; omega)) ?_
    rintro v Fs ⟨l2, hl2, rfl⟩
    intro β w' hs
    exact (hs.keepB (List.nil_sublist _)).fin [4, 5] ⟨S', D', rfl, q1, q2, q3, q4, rfl⟩ rfl rfl rfl ⟨stoO_own S', D'.own, trivial⟩
  refine ⟨by decide, ?_⟩
  obtain ⟨m, hm⟩ : ∃ m : Int, ((d.toNat % 15 : Nat) : Int) = m := ⟨_, rfl⟩
  refine ⟨m, by rw [← hm]; exact Int.ofNat_tmod _ _, ?_⟩
  have ksub : List.Sublist [(⟨2, ty_cred_Secret, z.x.ss⟩ : Bk), ⟨1, ty_ostiaryref14_Secret, y.x.ss⟩] [⟨2, ty_cred_Secret, z.x.ss⟩, ⟨1, ty_ostiaryref14_Secret, y.x.ss⟩, ⟨0, ty_ostiarylaw14_Op, [SL.v (Value.int IntKind.u8 d.toNat), SL.v (Value.string t), SL.v (Value.string u), SL.v (Value.string r), SL.v (Value.bool on)] ++ (x.x.ss ++ c.ss)⟩] := List.Sublist.cons_cons _ (List.Sublist.cons_cons _ (List.nil_sublist _))
  have kop : List.Sublist [(⟨0, ty_ostiarylaw14_Op, [SL.v (Value.int IntKind.u8 d.toNat), SL.v (Value.string t), SL.v (Value.string u), SL.v (Value.string r), SL.v (Value.bool on)] ++ (x.x.ss ++ c.ss)⟩ : Bk)] [⟨2, ty_cred_Secret, z.x.ss⟩, ⟨1, ty_ostiaryref14_Secret, y.x.ss⟩, ⟨0, ty_ostiarylaw14_Op, [SL.v (Value.int IntKind.u8 d.toNat), SL.v (Value.string t), SL.v (Value.string u), SL.v (Value.string r), SL.v (Value.bool on)] ++ (x.x.ss ++ c.ss)⟩] := (List.sublist_cons_self _ _).trans (List.sublist_cons_self _ _)
  refine BIf.dec (fun h0 => ?d0) (fun h0 => ?n0)
  case' n0 => refine BIf.dec (fun h1 => ?d1) (fun h1 => ?n1)
  case' n1 => refine BIf.dec (fun h5 => ?d5) (fun h5 => ?n5)
  case' n5 => refine BIf.dec (fun h6 => ?d6) (fun h6 => ?n6)
  case' n6 => refine BIf.dec (fun h7 => ?d7) (fun h7 => ?n7)
  case' n7 => refine BIf.dec (fun h8 => ?c8) (fun h8 => ?n8)
  case' c8 => refine BIf.dec (fun _ => ?g8) (fun h => absurd h8 h)
  case' n8 => refine BIf.dec (fun h9 => ?c9) (fun h9 => ?n9)
  case' c9 => refine BIf.dec (fun _ => ?g9) (fun h => absurd h9 h)
  case' n9 => refine BIf.dec (fun h10 => ?g10) (fun h10 => ?n10)
  case' n10 => refine BIf.dec (fun h11 => ?d11) (fun h11 => ?n11)
  case' n11 => refine BIf.dec (fun h12 => ?d12) (fun h12 => ?n12)
  case' n12 => refine BIf.dec (fun h13 => ?d13) (fun h13 => ?n13)
  case' n13 => refine BIf.dec (fun h14 => ?d14) (fun h14 => ?dx)
  case' d0 =>
    refine call_con [0] (R := pOut S (addT · t0)) (fun β w' hs => addTenantO w' S h3 t0 (by omega) (hs.mem.take (js := [0]) rfl)) ?_ ⟨stoO_own S, trivial⟩
    rintro v Fs ⟨e, S', rfl, hp, rfl⟩
    refine call_con [1] (R := rOut D1 (addTR · t0)) (fun β w' hs => rAddTO w' D1 h3 t0 (by omega) (hs.mem.take (js := [1]) rfl)) ?_ ⟨D1.own, trivial⟩
    rintro v Fs ⟨e', D', rfl, hr, rfl⟩
    obtain ⟨rfl, q1, q2, q3, q4⟩ := h3.step hp hr (fun X Y h => h.addT t0)
    have hgn := GnO.of (d := d) h3 hp (fun hd X Y h => GenStep.addT X t0)
    conv => whnf
    generalize hee : decide (e' = e') = b1
    obtain rfl : b1 = true := hee.symm.trans (decide_eq_true rfl)
    exact EntX.of (S', D') ⟨q1, q2, q3.trans hv1, hgn, q4 _ hy1⟩ (Ent.mk' ⟨rfl, rfl, rfl, trivial⟩ rfl (fun β w' hs => (hs.keepB ksub).perm [1, 0, 2]))
  case' d1 =>
    refine call_con [0] (R := pOut S (dropT · t0)) (fun β w' hs => dropTenantO w' S h3 t0 (hs.mem.take (js := [0]) rfl)) ?_ ⟨stoO_own S, trivial⟩
    rintro v Fs ⟨e, S', rfl, hp, rfl⟩
    refine call_con [1] (R := rOut D1 (dropTR · t0)) (fun β w' hs => rDropTO w' D1 h3 t0 (hs.mem.take (js := [1]) rfl)) ?_ ⟨D1.own, trivial⟩
    rintro v Fs ⟨e', D', rfl, hr, rfl⟩
    obtain ⟨rfl, q1, q2, q3, q4⟩ := h3.step hp hr (fun X Y h => h.dropT t0)
    have hgn := GnO.of (d := d) h3 hp (fun hd X Y h => GenStep.dropT X t0)
    conv => whnf
    generalize hee : decide (e' = e') = b1
    obtain rfl : b1 = true := hee.symm.trans (decide_eq_true rfl)
    exact EntX.of (S', D') ⟨q1, q2, q3.trans hv1, hgn, q4 _ hy1⟩ (Ent.mk' ⟨rfl, rfl, rfl, trivial⟩ rfl (fun β w' hs => (hs.keepB ksub).perm [1, 0, 2]))
  case' d5 =>
    refine draw_rule g p_ostiarylaw14_do_11 (by kernel_rfl) [⟨2, ty_cred_Secret, z.x.ss⟩, ⟨1, ty_ostiaryref14_Secret, y.x.ss⟩] [] (fun β w hs => (hs.keepB ksub).perm []) ?_
    refine call_con [0] (R := pOut S (chgU · t0 u0 z.a)) (fun β w' hs => changeO w' S h3 t0 u0 z (by omega) (by rw [hz]; exact few_sz _) ((hs.secOf 2 rfl).mem.take (js := [1, 0, 6]) rfl)) ?_ ⟨stoO_own S, trivial⟩
    rintro v Fs ⟨e, S', rfl, hp, rfl⟩
    refine ⟨fun β w hs => (hs.keepB ksub).perm [], ?_⟩
    refine call_con [1] (R := rOut D1 (chgR · t0 u0 y.a)) (fun β w' hs => rChangeO w' D1 h3 t0 u0 y hy1 (by omega) (hs.mem.take (js := [1]) rfl)) ?_ ⟨D1.own, trivial⟩
    rintro v Fs ⟨e', D', rfl, hr, rfl⟩
    obtain ⟨rfl, q1, q2, q3, q4⟩ := h3.step hp hr (fun X Y h => by rw [hz, hy]; exact h.change t0 u0 _)
    have hgn := GnO.of (d := d) h3 hp (fun hd X Y h => GenStep.change h t0 u0 _)
    refine ⟨fun β w hs => (hs.keepB ksub).perm [], ?_⟩
    conv => whnf
    generalize hee : decide (e' = e') = b1
    obtain rfl : b1 = true := hee.symm.trans (decide_eq_true rfl)
    exact EntX.of (S', D') ⟨q1, q2, q3.trans hv1, hgn, q4 _ hy1⟩ (Ent.mk' ⟨rfl, rfl, rfl, trivial⟩ rfl (fun β w' hs => (hs.keepB ksub).perm [1, 0, 2]))
  case' d6 =>
    refine call_con [0] (R := pOut S (dropU · t0 u0)) (fun β w' hs => dropO w' S h3 t0 u0 (by omega) (hs.mem.take (js := [0, 5]) rfl)) ?_ ⟨stoO_own S, trivial⟩
    rintro v Fs ⟨e, S', rfl, hp, rfl⟩
    refine call_con [1] (R := rOut D1 (dropR · t0 u0)) (fun β w' hs => rDropO w' D1 h3 t0 u0 (by omega) (hs.mem.take (js := [1]) rfl)) ?_ ⟨D1.own, trivial⟩
    rintro v Fs ⟨e', D', rfl, hr, rfl⟩
    obtain ⟨rfl, q1, q2, q3, q4⟩ := h3.step hp hr (fun X Y h => h.drop t0 u0)
    have hgn := GnO.of (d := d) h3 hp (fun hd X Y h => GenStep.drop h t0 u0)
    conv => whnf
    generalize hee : decide (e' = e') = b1
    obtain rfl : b1 = true := hee.symm.trans (decide_eq_true rfl)
    exact EntX.of (S', D') ⟨q1, q2, q3.trans hv1, hgn, q4 _ hy1⟩ (Ent.mk' ⟨rfl, rfl, rfl, trivial⟩ rfl (fun β w' hs => (hs.keepB ksub).perm [1, 0, 2]))
  case' d7 =>
    refine draw_rule g p_ostiarylaw14_do_15 (by kernel_rfl) [⟨0, ty_ostiarylaw14_Op, [SL.v (Value.int IntKind.u8 d.toNat), SL.v (Value.string t), SL.v (Value.string u), SL.v (Value.string r), SL.v (Value.bool on)] ++ (x.x.ss ++ c.ss)⟩] [] (fun β w hs => (hs.keepB kop).perm []) ?_
    refine call_con [0] (R := pOut S (revU · t0 u0 on)) (fun β w' hs => revokeO w' S h3 t0 u0 on (by omega) (hs.mem.take (js := [0, 5]) rfl)) ?_ ⟨stoO_own S, trivial⟩
    rintro v Fs ⟨e, S', rfl, hp, rfl⟩
    refine ⟨fun β w hs => (hs.keepB kop).perm [], ?_⟩
    refine call_con [1] (R := rOut D1 (revR · t0 u0 on)) (fun β w' hs => rRevokeO w' D1 h3 t0 u0 on (by omega) (hs.mem.take (js := [1]) rfl)) ?_ ⟨D1.own, trivial⟩
    rintro v Fs ⟨e', D', rfl, hr, rfl⟩
    obtain ⟨rfl, q1, q2, q3, q4⟩ := h3.step hp hr (fun X Y h => h.revoke t0 u0 on)
    have hgn := GnO.of (d := d) h3 hp (fun hd X Y h => GenStep.revoke h t0 u0 on)
    refine ⟨fun β w hs => (hs.keepB kop).perm [], ?_⟩
    conv => whnf
    generalize hee : decide (e' = e') = b1
    obtain rfl : b1 = true := hee.symm.trans (decide_eq_true rfl)
    exact EntX.of (S', D') ⟨q1, q2, q3.trans hv1, hgn, q4 _ hy1⟩ (Ent.mk' ⟨rfl, rfl, rfl, trivial⟩ rfl (fun β w' hs => (hs.keepB ksub).perm [1, 0, 2]))
  case' c8 | c9 | g10 =>
    refine call_con [0] (R := pOut S (grantG · t0 u0 r0)) (fun β w' hs => grantO w' S h3 t0 u0 r0 (by omega) (by omega) (hs.mem.take (js := [0, 5]) rfl)) ?_ ⟨stoO_own S, trivial⟩
    rintro v Fs ⟨e, S', rfl, hp, rfl⟩
    refine call_con [1] (R := rOut D1 (grantR · t0 u0 r0 false)) (fun β w' hs => rGrantO w' D1 h3 t0 u0 r0 false (by omega) (by omega) (hs.mem.take (js := [1]) rfl)) ?_ ⟨D1.own, trivial⟩
    rintro v Fs ⟨e', D', rfl, hr, rfl⟩
    obtain ⟨rfl, q1, q2, q3, q4⟩ := h3.step hp hr (fun X Y h => h.grant t0 u0 r0)
    have hgn := GnO.of (d := d) h3 hp (fun hd X Y h => GenStep.grant h t0 u0 r0)
    conv => whnf
    generalize hee : decide (e' = e') = b1
    obtain rfl : b1 = true := hee.symm.trans (decide_eq_true rfl)
    exact EntX.of (S', D') ⟨q1, q2, q3.trans hv1, hgn, q4 _ hy1⟩ (Ent.mk' ⟨rfl, rfl, rfl, trivial⟩ rfl (fun β w' hs => (hs.keepB ksub).perm [1, 0, 2]))
  case' d11 =>
    refine call_con [0] (R := pOut S (ungrU · t0 u0 r0)) (fun β w' hs => ungrantO w' S h3 t0 u0 r0 (by omega) (by omega) (hs.mem.take (js := [0, 5]) rfl)) ?_ ⟨stoO_own S, trivial⟩
    rintro v Fs ⟨e, S', rfl, hp, rfl⟩
    refine call_con [1] (R := rOut D1 (grantR · t0 u0 r0 true)) (fun β w' hs => rGrantO w' D1 h3 t0 u0 r0 true (by omega) (by omega) (hs.mem.take (js := [1]) rfl)) ?_ ⟨D1.own, trivial⟩
    rintro v Fs ⟨e', D', rfl, hr, rfl⟩
    obtain ⟨rfl, q1, q2, q3, q4⟩ := h3.step hp hr (fun X Y h => h.ungrant t0 u0 r0)
    have hgn := GnO.of (d := d) h3 hp (fun hd X Y h => GenStep.ungrant h t0 u0 r0)
    conv => whnf
    generalize hee : decide (e' = e') = b1
    obtain rfl : b1 = true := hee.symm.trans (decide_eq_true rfl)
    exact EntX.of (S', D') ⟨q1, q2, q3.trans hv1, hgn, q4 _ hy1⟩ (Ent.mk' ⟨rfl, rfl, rfl, trivial⟩ rfl (fun β w' hs => (hs.keepB ksub).perm [1, 0, 2]))
  case' d14 =>
    refine draw_rule g p_ostiarylaw14_do_33 (by kernel_rfl) [⟨0, ty_ostiarylaw14_Op, [SL.v (Value.int IntKind.u8 d.toNat), SL.v (Value.string t), SL.v (Value.string u), SL.v (Value.string r), SL.v (Value.bool on)] ++ (x.x.ss ++ c.ss)⟩] [] (fun β w hs => (hs.keepB kop).perm []) ?_
    refine call_con [0] (R := pOut S (raiseA · c.gen)) (fun β w' hs => raiseO w' S h3 c.gen (hs.mem.take (js := [0]) rfl)) ?_ ⟨stoO_own S, trivial⟩
    rintro v Fs ⟨e, S', rfl, hp, rfl⟩
    refine ⟨fun β w hs => (hs.keepB kop).perm [], ?_⟩
    refine call_con [1] (R := rOut D1 (raiseTR · c.gen)) (fun β w' hs => rRaiseO w' D1 h3 c.gen (hs.mem.take (js := [1]) rfl)) ?_ ⟨D1.own, trivial⟩
    rintro v Fs ⟨e', D', rfl, hr, rfl⟩
    obtain ⟨rfl, q1, q2, q3, q4⟩ := h3.step hp hr (fun X Y h => h.raise c.gen)
    have hgn := GnO.of (d := d) h3 hp (fun hd X Y h => by exfalso; have h140 : m = 14 := h14; omega)
    refine ⟨fun β w hs => (hs.keepB kop).perm [], ?_⟩
    conv => whnf
    generalize hee : decide (e' = e') = b1
    obtain rfl : b1 = true := hee.symm.trans (decide_eq_true rfl)
    exact EntX.of (S', D') ⟨q1, q2, q3.trans hv1, hgn, q4 _ hy1⟩ (Ent.mk' ⟨rfl, rfl, rfl, trivial⟩ rfl (fun β w' hs => (hs.keepB ksub).perm [1, 0, 2]))
  case' dx =>
    refine draw_rule g p_ostiarylaw14_do_5 (by kernel_rfl) [⟨2, ty_cred_Secret, z.x.ss⟩, ⟨1, ty_ostiaryref14_Secret, y.x.ss⟩] [] (fun β w hs => (hs.keepB ksub).perm []) ?_
    refine call_con [0] (R := pOut S (addU · t0 u0 z.a)) (fun β w' hs => addO w' S h3 t0 u0 z (by omega) (by rw [hz]; exact few_sz _) ((hs.secOf 2 rfl).mem.take (js := [1, 0, 6]) rfl)) ?_ ⟨stoO_own S, trivial⟩
    rintro v Fs ⟨e, S', rfl, hp, rfl⟩
    refine ⟨fun β w hs => (hs.keepB ksub).perm [], ?_⟩
    refine call_con [1] (R := rOut D1 (addR · t0 u0 y.a)) (fun β w' hs => rAddO w' D1 h3 t0 u0 y hy1 hn1 (by omega) (hs.mem.take (js := [1]) rfl)) ?_ ⟨D1.own, trivial⟩
    rintro v Fs ⟨e', D', rfl, hr, rfl⟩
    obtain ⟨rfl, q1, q2, q3, q4⟩ := h3.step hp hr (fun X Y h => by rw [hz, hy]; exact h.add t0 u0 _)
    have hgn := GnO.of (d := d) h3 hp (fun hd X Y h => GenStep.add X t0 u0 _)
    refine ⟨fun β w hs => (hs.keepB ksub).perm [], ?_⟩
    conv => whnf
    generalize hee : decide (e' = e') = b1
    obtain rfl : b1 = true := hee.symm.trans (decide_eq_true rfl)
    exact EntX.of (S', D') ⟨q1, q2, q3.trans hv1, hgn, q4 _ hy1⟩ (Ent.mk' ⟨rfl, rfl, rfl, trivial⟩ rfl (fun β w' hs => (hs.keepB ksub).perm [1, 0, 2]))
  case d13 =>
    have hfr := fewC_ro c.a
    refine draw_rule g p_ostiarylaw14_do_31 (by kernel_rfl) [⟨0, ty_ostiarylaw14_Op, [SL.v (Value.int IntKind.u8 d.toNat), SL.v (Value.string t), SL.v (Value.string u), SL.v (Value.string r), SL.v (Value.bool on)] ++ (x.x.ss ++ c.ss)⟩] [] (fun β w hs => (hs.keepB kop).perm []) ?_
    refine call_con [] (fun β w' hs => rFewCred_c w' c (hs.get 4 rfl).1 (hs.get 4 rfl).2 k9 k6 k7 k8 k5.c1 k5.c2 k5.c3 k5.c4) ?_
    rintro v Fs ⟨d1, rfl, hd1, hd1c, rfl⟩
    refine ⟨fun β w hs => (hs.keepB kop).perm [], ?_⟩
    refine call_pu (fun β w' hs => own14_c w' d1) ?_
    refine ⟨fun β w hs => (hs.keepB kop).perm [], ?_⟩
    have s1 : d1.tenant.size ≤ 100000 := by have h := cut40_sz c.tenant; rw [show d1.tenant = cut40 c.tenant from congrArg ACrd.tenant hd1]; omega
    have s2 : d1.user.size ≤ 100000 := by have h := cut40_sz c.user; rw [show d1.user = cut40 c.user from congrArg ACrd.user hd1]; omega
    refine call_con [5] (R := pOut S (loadA · d1.a)) (fun β w' hs => loadO w' S h3 d1 s1 s2 (by rw [show d1.roles = (fewCA c.a).roles from congrArg ACrd.roles hd1]; exact hfr.1) (by rw [show d1.roles = (fewCA c.a).roles from congrArg ACrd.roles hd1]; exact hfr.2) (by rw [hd1]; exact fewC_sz _) ((hs.crdOf [0, 1, 2, 3, 4] rfl).mem.take (js := [2, 0, 7]) rfl)) ?_ ⟨stoO_own S, trivial⟩
    rintro v Fs ⟨e, S', rfl, hp, rfl⟩
    refine ⟨fun β w hs => (hs.keepB kop).perm [], ?_⟩
    refine call_con [] (fun β w' hs => rFewCred_c w' c (hs.get 9 rfl).1 (hs.get 9 rfl).2 k9 k6 k7 k8 k5.c1 k5.c2 k5.c3 k5.c4) ?_
    rintro v Fs ⟨d2, rfl, hd2, hd2c, rfl⟩
    refine ⟨fun β w hs => (hs.keepB kop).perm [], ?_⟩
    have u1 : d2.tenant.size ≤ 100000 := by have h := cut40_sz c.tenant; rw [show d2.tenant = cut40 c.tenant from congrArg ACrd.tenant hd2]; omega
    have u2 : d2.user.size ≤ 100000 := by have h := cut40_sz c.user; rw [show d2.user = cut40 c.user from congrArg ACrd.user hd2]; omega
    obtain ⟨gs2, hgs2⟩ : ∃ gs2, gs2 = [secF d2.sec.x d2.sec.a, rdF 1 d2.rA d2.roles.length (strs d2.roles)] := ⟨_, rfl⟩
    refine call_con [0, 1, 2, 3, 4, 11] (R := rOut (D1.more gs2) (loadR · d2.a)) (fun β w' hs => by
      have j1 := hs.toPoC [0, 1, 2, 3, 4] rfl
      have hrow := (hs.mem.take (js := [0, 1, 2, 3, 4]) rfl)
      rw [← hgs2] at j1
      have j2 := (j1.perm [0, 7]).dsPo
      have h := rLoadO w' (D1.more gs2) (h3.more gs2) d2 ⟨by rw [DS.more_ps, hgs2]; simp, by rw [DS.more_ps, hgs2]; simp, hd2c⟩ u1 u2 (by rw [show d2.roles = (fewCA c.a).roles from congrArg ACrd.roles hd2]; exact hfr.1) (by rw [show d2.roles = (fewCA c.a).roles from congrArg ACrd.roles hd2]; exact hfr.2) (j2.mem.take (js := [0]) rfl)
      rw [DS.more_v] at h
      refine h.gs fun k hk => ?_
      obtain ⟨f, hf, hk⟩ := hk
      obtain rfl := List.mem_singleton.1 hf
      rcases DS.more_D hk with q | q
      · obtain ⟨f, hf, q⟩ := poC_D hrow (by rw [hgs2] at q; exact q)
        exact ⟨f, List.mem_append_left [D1.F] hf, q⟩
      · exact ⟨D1.F, List.mem_append_right (d2.sec.bs ++ [srowF d2.rA d2.roles d2.rc]) (List.mem_singleton.2 rfl), q⟩) ?_ ⟨rfl, rfl, rfl, rfl, rfl, D1.own, trivial⟩
    rintro v Fs ⟨e', D', rfl, hr, rfl⟩
    obtain ⟨rfl, q1, q2, q3, q4⟩ := (h3.more gs2).step hp hr (fun X Y h => by rw [hd1, hd2]; exact h.load _)
    rw [DS.more_v] at q3
    have hgn := GnO.of (d := d) h3 hp (fun hd X Y h => by exfalso; have h130 : m = 13 := h13; omega)
    refine ⟨fun β w hs => (hs.keepB kop).perm [], ?_⟩
    conv => whnf
    generalize hee : decide (e' = e') = b1
    obtain rfl : b1 = true := hee.symm.trans (decide_eq_true rfl)
    exact EntX.of (S', D') ⟨q1, q2, q3.trans hv1, hgn, q4 _ (by rw [DS.more_ps]; exact List.mem_append_right _ hy1)⟩ (Ent.mk' ⟨rfl, rfl, rfl, trivial⟩ rfl (fun β w' hs => (hs.keepB ksub).perm [1, 0, 7]))
  case d12 =>
    refine call_con [0] (fun β w' hs => findO w' S h3 t0 u0 (by omega) (hs.mem.take (js := [0, 5]) rfl)) ?_ ⟨stoO_own S, trivial⟩
    rintro v Fs ⟨cf, bf, rfl, hf, hsl, rfl⟩
    refine call_con [] (fun β w' hs => rfindO w' D1 h3 t0 u0 (hs.get 6 rfl) (hs.getLt 6 rfl) (by omega)) ?_
    rintro v Fs ⟨i, rfl, hri, rfl⟩
    cases S with
    | none =>
      cases D1 with
      | st R => exact h3.elim
      | no ps =>
        obtain rfl : bf = false := hf
        obtain rfl : i = -1 := hri
        refine draw_rule g p_ostiarylaw14_do_27 (by kernel_rfl) [⟨3, ty_cred_Cred, cf.ss⟩] [] (fun β w hs => (hs.keepB (List.Sublist.cons_cons _ (List.nil_sublist _))).perm []) ?_
        refine ⟨fun β w hs => (hs.keepB (List.Sublist.cons_cons _ (List.nil_sublist _))).perm [], ?_⟩
        refine ⟨fun β w hs => (hs.keepB (List.Sublist.cons_cons _ (List.nil_sublist _))).perm [], ?_⟩
        refine call_con [3] (fun β w' hs => flip_c w' cf.sec.stored.A cf.sec.stored.l cf.sec.stored.c (hs.mem.take (js := [3]) rfl) (by rw [lim_eq]; omega)) ?_
        rintro v Fs ⟨l1, hl1, rfl⟩
        exact EntX.of (none, .no ps) ⟨trivial, rfl, hv1, trivial, hy1⟩ (Ent.mk' ⟨rfl, rfl, rfl, trivial⟩ rfl (fun β w' hs => ((hs.keepB (by exact (List.Sublist.cons _ ksub))).perm [5, 6, 7]).lower))
    | some S =>
      cases D1 with
      | no ps => exact h3.elim
      | st R =>
        have h4 : Two (some (stoR S)) (.st { R with reads := IntKind.u64.wrap (R.reads + 1) }) := by
          have e : IntKind.u64.wrap (R.reads + 1) = IntKind.u64.wrap (S.reads + 1) := by rw [show R.reads = S.reads from h3.1.reads.symm]
          rw [e]
          exact ⟨h3.1.read _, ⟨h3.2.tc, h3.2.lc, h3.2.tn, h3.2.ln, h3.2.ris, h3.2.mem, h3.2.ro⟩⟩
        have hg4 : GnO d (some S) (some (stoR S)) := fun _ => GenStep.same rfl fun c hc => hc
        refine ⟨.int .u64 R.reads, fun β w' hs => bkc (rs_bk (R := R) (hs.get 6 rfl)) rfl, ?_⟩
        refine ⟨IntKind.u64.wrap (R.reads + 1), rfl, ?_⟩
        refine ⟨[rsF { R with reads := IntKind.u64.wrap (R.reads + 1) }] ++ crdBs cf ++ [stoF (stoR S), sepF z.bs], fun β w' hs => ((hs.perm [6, 0, 1, 2, 3, 4, 5, 7]).rsReads _), ?_⟩
        generalize IntKind.u64.wrap (R.reads + 1) = rd at h4 ⊢
        cases bf with
        | false =>
          have hi1 : i = -1 := by
            rcases FindR.one hri with ⟨h, _⟩ | ⟨k, c2, _, _, h⟩
            · exact h
            · rw [show oneR (R.cs.map Crd.a) t0 u0 = none from h3.1.neither hf] at h; cases h
          subst hi1
          refine draw_rule g p_ostiarylaw14_do_27 (by kernel_rfl) [⟨3, ty_cred_Cred, cf.ss⟩] [] (fun β w hs => (hs.keepB (List.Sublist.cons_cons _ (List.nil_sublist _))).perm []) ?_
          refine ⟨fun β w hs => (hs.keepB (List.Sublist.cons_cons _ (List.nil_sublist _))).perm [], ?_⟩
          refine ⟨fun β w hs => (hs.keepB (List.Sublist.cons_cons _ (List.nil_sublist _))).perm [], ?_⟩
          refine call_con [4] (fun β w' hs => flip_c w' cf.sec.stored.A cf.sec.stored.l cf.sec.stored.c (hs.mem.take (js := [4]) rfl) (by rw [lim_eq]; omega)) ?_
          rintro v Fs ⟨l1, hl1, rfl⟩
          exact EntX.of (some (stoR S), .st { R with reads := rd }) ⟨h4, rfl, hv1, hg4, hy1⟩ (Ent.mk' ⟨rfl, rfl, rfl, trivial⟩ rfl (fun β w' hs => ((hs.keepB (by exact (List.Sublist.cons _ ksub))).perm [6, 1, 7]).lower))
        | true =>
          obtain ⟨k, c2, hik, hc2, hca⟩ : ∃ (k : Nat) (c2 : Crd), i = (k : Int) ∧ R.cs[k]? = some c2 ∧ c2.a = cf.a := by
            obtain ⟨A', B', U', V', P', Q', b⟩ := h3.1.both hf
            rcases FindR.one hri with ⟨_, h⟩ | ⟨k, c2, e1, e2, h⟩
            · rw [show oneR (R.cs.map Crd.a) t0 u0 = _ from b.one] at h; cases h
            · rw [show oneR (R.cs.map Crd.a) t0 u0 = _ from b.one] at h
              injection h with h
              injection h with _ h
              exact ⟨k, c2, e1, e2, h.symm⟩
          have hr8 : cf.roles.length ≤ 1000 := by
            obtain ⟨A', B', U', V', P', Q', b⟩ := h3.1.both hf
            have := b.wf.r8
            exact Nat.le_trans this (by decide)
          obtain ⟨hkl, _⟩ := List.getElem?_eq_some_iff.1 hc2
          have hcm := List.mem_of_getElem? hc2
          obtain ⟨ad, hA, _⟩ : ∃ ad, R.lA = some ad ∧ True := by
            obtain ⟨ad, hA, _⟩ := (hrd0 R rfl).2 (by omega)
            exact ⟨ad, hA, trivial⟩
          subst hik
          refine draw_rule g p_ostiarylaw14_do_27 (by kernel_rfl) [⟨3, ty_cred_Cred, cf.ss⟩] [rsF { R with reads := rd }] (fun β w hs => (hs.keepB (List.Sublist.cons_cons _ (List.nil_sublist _))).perm [0]) ?_
          refine ⟨.slice R.lA R.cs.length R.lc, fun β w' hs => bkc (rs_bk (R := { R with reads := rd }) (hs.get 0 rfl)) rfl, ?_⟩
          refine ⟨ad, k, hA, rfl, hkl, c2.vs, rfl, fun β w' hs => crd_at (rs_rd (R := { R with reads := rd }) (hs.get 0 rfl)) hA hc2, ?_⟩
          refine call_pu (fun β w' hs => back14_c w' cf) ?_
          refine ⟨fun β w hs => (hs.keepB (List.Sublist.cons_cons _ (List.nil_sublist _))).perm [0], ?_⟩
          refine call_con [] (fun β w' hs => rSame_c w' cf c2 (Sec.rdR (bs_ro (hs.mem.take (js := [2, 3, 4, 5]) rfl).fact)) (row_rd (hs.get 1 rfl)) (rs_po (R := { R with reads := rd }) (hs.get 0 rfl) _ (h3.2.mem c2 hcm).1) (rs_po (R := { R with reads := rd }) (hs.get 0 rfl) _ (h3.2.mem c2 hcm).2.1) hr8) ?_
          rintro v Fs ⟨b, rfl, hb, rfl⟩
          obtain rfl : b = true := hb.2 hca.symm
          refine ⟨fun β w hs => (hs.keepB (List.Sublist.cons_cons _ (List.nil_sublist _))).perm [0], ?_⟩
          refine call_con [4] (fun β w' hs => flip_c w' cf.sec.stored.A cf.sec.stored.l cf.sec.stored.c (hs.mem.take (js := [4]) rfl) (by rw [lim_eq]; omega)) ?_
          rintro v Fs ⟨l1, hl1, rfl⟩
          exact EntX.of (some (stoR S), .st { R with reads := rd }) ⟨h4, rfl, hv1, hg4, hy1⟩ (Ent.mk' ⟨rfl, rfl, rfl, trivial⟩ rfl (fun β w' hs => ((hs.keepB (by exact (List.Sublist.cons _ ksub))).perm [6, 1, 7]).lower))
end Go.Proofs.YtkobpamlmfpidaaGreatDoor.Sx

/- slices.Equal of texts. -/
namespace Go.Proofs.YtkobpamlmfpidaaGreatDoor.Sx
open Go
attribute [local irreducible] Calls

end Go.Proofs.YtkobpamlmfpidaaGreatDoor.Sx

/- Is a store the document's? -/
namespace Go.Proofs.YtkobpamlmfpidaaGreatDoor.Sx
open Go
attribute [local irreducible] Calls

theorem Jn.usr {S : Sto} {Y : RA} (h : Jn S.a Y) (t u : ByteArray) : (∃ c, S.usr t u = some c ∧ aone S.a t u = some c.a) ∨ (S.usr t u = none ∧ aone S.a t u = none) := by
  cases hc : S.usr t u with
  | none => exact .inr ⟨rfl, usr_none hc⟩
  | some c =>
    obtain ⟨A, T, B, U, V, at_⟩ := usr_some hc
    exact .inl ⟨c, rfl, at_.is⟩
end Go.Proofs.YtkobpamlmfpidaaGreatDoor.Sx

/- Who there is: a secret of noughts; the example. -/
namespace Go.Proofs.YtkobpamlmfpidaaGreatDoor.Sx
open Go
attribute [local irreducible] Calls

def zeros32 : List UInt8 := List.replicate 32 0
def plainS : ASec := ⟨[1], 1, zeros32, zeros32, zeros32⟩
def plainX (b0 b1 b2 b3 : Nat) : SecV := ⟨some ⟨b0, 0, none⟩, 1, 1, 1, some ⟨b1, 0, none⟩, 32, 32, some ⟨b2, 0, none⟩, 32, 32, some ⟨b3, 0, none⟩, 32, 32⟩
noncomputable def rowZ (b : Nat) : Fact := rowF ty_uint8 1 (.slice (some ⟨b, 0, none⟩) 32 32) 32 (repl ti5.zero 32)
def row1 (b : Nat) : Fact := rowF ty_uint8 1 (.slice (some ⟨b, 0, none⟩) 1 1) 1 [.int .u8 1]
set_option maxRecDepth 100000 in
set_option maxHeartbeats 4000000 in
theorem plain14_c (w : World) : Con Tryz.prog n_ostiarylaw14_plain #[] w [] fun v Fs => ∃ b0 b1 b2 b3, v = .agg (plainX b0 b1 b2 b3).vs.toArray ∧ Fs = [rowZ b3, rowZ b2, rowZ b1, row1 b0] := by
  have g := good_ostiarylaw14_plain w (Un [])
  refine con_of_sx (cx := cx_ostiarylaw14_plain w (Un [])) g b_ostiarylaw14_plain rfl rfl (β := Va.z) [] 0 [] [] rfl rfl (Sat.start rfl) ?_
  have hS : ∀ {n : Nat} {H : List Bk} {F : List Fact}, Sub (cx_ostiarylaw14_plain w (Un [])) n H F [] [] := fun {n H F} => Sub.of (List.nil_sublist _) (List.nil_sublist _)
  refine draw_rule g p_ostiarylaw14_plain_1 (by kernel_rfl) [] [] hS ?_
  exact ⟨fun b0 => ⟨hS, ⟨⟨32, 32, rfl, rfl, Nat.le_refl _, by decide, by decide, fun b1 => ⟨hS, ⟨⟨32, 32, rfl, rfl, Nat.le_refl _, by decide, by decide, fun b2 => ⟨hS, ⟨32, 32, rfl, rfl, Nat.le_refl _, by decide, by decide, fun b3 => ⟨hS, ⟨hS, fun β w' hs => (hs.keepB (List.nil_sublist _)).fin [0, 1, 2, 3] ⟨b0, b1, b2, b3, rfl, rfl⟩ rfl rfl rfl ⟨rfl, rfl, rfl, rfl, trivial⟩⟩⟩⟩⟩⟩, ⟨32, 32, rfl, rfl, Nat.le_refl _, by decide, by decide, fun b3 => ⟨hS, ⟨32, 32, rfl, rfl, Nat.le_refl _, by decide, by decide, fun b2 => ⟨hS, ⟨hS, fun β w' hs => (hs.keepB (List.nil_sublist _)).fin [1, 0, 2, 3] ⟨b0, b1, b2, b3, rfl, rfl⟩ rfl rfl rfl ⟨rfl, rfl, rfl, rfl, trivial⟩⟩⟩⟩⟩⟩⟩⟩⟩, ⟨⟨32, 32, rfl, rfl, Nat.le_refl _, by decide, by decide, fun b2 => ⟨hS, ⟨⟨32, 32, rfl, rfl, Nat.le_refl _, by decide, by decide, fun b1 => ⟨hS, ⟨32, 32, rfl, rfl, Nat.le_refl _, by decide, by decide, fun b3 => ⟨hS, ⟨hS, fun β w' hs => (hs.keepB (List.nil_sublist _)).fin [0, 2, 1, 3] ⟨b0, b1, b2, b3, rfl, rfl⟩ rfl rfl rfl ⟨rfl, rfl, rfl, rfl, trivial⟩⟩⟩⟩⟩⟩, ⟨32, 32, rfl, rfl, Nat.le_refl _, by decide, by decide, fun b3 => ⟨hS, ⟨32, 32, rfl, rfl, Nat.le_refl _, by decide, by decide, fun b1 => ⟨hS, ⟨hS, fun β w' hs => (hs.keepB (List.nil_sublist _)).fin [1, 2, 0, 3] ⟨b0, b1, b2, b3, rfl, rfl⟩ rfl rfl rfl ⟨rfl, rfl, rfl, rfl, trivial⟩⟩⟩⟩⟩⟩⟩⟩⟩, ⟨32, 32, rfl, rfl, Nat.le_refl _, by decide, by decide, fun b3 => ⟨hS, ⟨⟨32, 32, rfl, rfl, Nat.le_refl _, by decide, by decide, fun b1 => ⟨hS, ⟨32, 32, rfl, rfl, Nat.le_refl _, by decide, by decide, fun b2 => ⟨hS, ⟨hS, fun β w' hs => (hs.keepB (List.nil_sublist _)).fin [2, 0, 1, 3] ⟨b0, b1, b2, b3, rfl, rfl⟩ rfl rfl rfl ⟨rfl, rfl, rfl, rfl, trivial⟩⟩⟩⟩⟩⟩, ⟨32, 32, rfl, rfl, Nat.le_refl _, by decide, by decide, fun b2 => ⟨hS, ⟨32, 32, rfl, rfl, Nat.le_refl _, by decide, by decide, fun b1 => ⟨hS, ⟨hS, fun β w' hs => (hs.keepB (List.nil_sublist _)).fin [2, 1, 0, 3] ⟨b0, b1, b2, b3, rfl, rfl⟩ rfl rfl rfl ⟨rfl, rfl, rfl, rfl, trivial⟩⟩⟩⟩⟩⟩⟩⟩⟩⟩⟩⟩, ⟨⟨32, 32, rfl, rfl, Nat.le_refl _, by decide, by decide, fun b1 => ⟨hS, ⟨fun b0 => ⟨hS, ⟨⟨32, 32, rfl, rfl, Nat.le_refl _, by decide, by decide, fun b2 => ⟨hS, ⟨32, 32, rfl, rfl, Nat.le_refl _, by decide, by decide, fun b3 => ⟨hS, ⟨hS, fun β w' hs => (hs.keepB (List.nil_sublist _)).fin [0, 1, 3, 2] ⟨b0, b1, b2, b3, rfl, rfl⟩ rfl rfl rfl ⟨rfl, rfl, rfl, rfl, trivial⟩⟩⟩⟩⟩⟩, ⟨32, 32, rfl, rfl, Nat.le_refl _, by decide, by decide, fun b3 => ⟨hS, ⟨32, 32, rfl, rfl, Nat.le_refl _, by decide, by decide, fun b2 => ⟨hS, ⟨hS, fun β w' hs => (hs.keepB (List.nil_sublist _)).fin [1, 0, 3, 2] ⟨b0, b1, b2, b3, rfl, rfl⟩ rfl rfl rfl ⟨rfl, rfl, rfl, rfl, trivial⟩⟩⟩⟩⟩⟩⟩⟩, ⟨⟨32, 32, rfl, rfl, Nat.le_refl _, by decide, by decide, fun b2 => ⟨hS, ⟨fun b0 => ⟨hS, ⟨32, 32, rfl, rfl, Nat.le_refl _, by decide, by decide, fun b3 => ⟨hS, ⟨hS, fun β w' hs => (hs.keepB (List.nil_sublist _)).fin [0, 2, 3, 1] ⟨b0, b1, b2, b3, rfl, rfl⟩ rfl rfl rfl ⟨rfl, rfl, rfl, rfl, trivial⟩⟩⟩⟩⟩, ⟨32, 32, rfl, rfl, Nat.le_refl _, by decide, by decide, fun b3 => ⟨hS, fun b0 => ⟨hS, ⟨hS, fun β w' hs => (hs.keepB (List.nil_sublist _)).fin [1, 2, 3, 0] ⟨b0, b1, b2, b3, rfl, rfl⟩ rfl rfl rfl ⟨rfl, rfl, rfl, rfl, trivial⟩⟩⟩⟩⟩⟩⟩⟩, ⟨32, 32, rfl, rfl, Nat.le_refl _, by decide, by decide, fun b3 => ⟨hS, ⟨fun b0 => ⟨hS, ⟨32, 32, rfl, rfl, Nat.le_refl _, by decide, by decide, fun b2 => ⟨hS, ⟨hS, fun β w' hs => (hs.keepB (List.nil_sublist _)).fin [2, 0, 3, 1] ⟨b0, b1, b2, b3, rfl, rfl⟩ rfl rfl rfl ⟨rfl, rfl, rfl, rfl, trivial⟩⟩⟩⟩⟩, ⟨32, 32, rfl, rfl, Nat.le_refl _, by decide, by decide, fun b2 => ⟨hS, fun b0 => ⟨hS, ⟨hS, fun β w' hs => (hs.keepB (List.nil_sublist _)).fin [2, 1, 3, 0] ⟨b0, b1, b2, b3, rfl, rfl⟩ rfl rfl rfl ⟨rfl, rfl, rfl, rfl, trivial⟩⟩⟩⟩⟩⟩⟩⟩⟩⟩⟩⟩, ⟨⟨32, 32, rfl, rfl, Nat.le_refl _, by decide, by decide, fun b2 => ⟨hS, ⟨fun b0 => ⟨hS, ⟨⟨32, 32, rfl, rfl, Nat.le_refl _, by decide, by decide, fun b1 => ⟨hS, ⟨32, 32, rfl, rfl, Nat.le_refl _, by decide, by decide, fun b3 => ⟨hS, ⟨hS, fun β w' hs => (hs.keepB (List.nil_sublist _)).fin [0, 3, 1, 2] ⟨b0, b1, b2, b3, rfl, rfl⟩ rfl rfl rfl ⟨rfl, rfl, rfl, rfl, trivial⟩⟩⟩⟩⟩⟩, ⟨32, 32, rfl, rfl, Nat.le_refl _, by decide, by decide, fun b3 => ⟨hS, ⟨32, 32, rfl, rfl, Nat.le_refl _, by decide, by decide, fun b1 => ⟨hS, ⟨hS, fun β w' hs => (hs.keepB (List.nil_sublist _)).fin [1, 3, 0, 2] ⟨b0, b1, b2, b3, rfl, rfl⟩ rfl rfl rfl ⟨rfl, rfl, rfl, rfl, trivial⟩⟩⟩⟩⟩⟩⟩⟩, ⟨⟨32, 32, rfl, rfl, Nat.le_refl _, by decide, by decide, fun b1 => ⟨hS, ⟨fun b0 => ⟨hS, ⟨32, 32, rfl, rfl, Nat.le_refl _, by decide, by decide, fun b3 => ⟨hS, ⟨hS, fun β w' hs => (hs.keepB (List.nil_sublist _)).fin [0, 3, 2, 1] ⟨b0, b1, b2, b3, rfl, rfl⟩ rfl rfl rfl ⟨rfl, rfl, rfl, rfl, trivial⟩⟩⟩⟩⟩, ⟨32, 32, rfl, rfl, Nat.le_refl _, by decide, by decide, fun b3 => ⟨hS, fun b0 => ⟨hS, ⟨hS, fun β w' hs => (hs.keepB (List.nil_sublist _)).fin [1, 3, 2, 0] ⟨b0, b1, b2, b3, rfl, rfl⟩ rfl rfl rfl ⟨rfl, rfl, rfl, rfl, trivial⟩⟩⟩⟩⟩⟩⟩⟩, ⟨32, 32, rfl, rfl, Nat.le_refl _, by decide, by decide, fun b3 => ⟨hS, ⟨fun b0 => ⟨hS, ⟨32, 32, rfl, rfl, Nat.le_refl _, by decide, by decide, fun b1 => ⟨hS, ⟨hS, fun β w' hs => (hs.keepB (List.nil_sublist _)).fin [2, 3, 0, 1] ⟨b0, b1, b2, b3, rfl, rfl⟩ rfl rfl rfl ⟨rfl, rfl, rfl, rfl, trivial⟩⟩⟩⟩⟩, ⟨32, 32, rfl, rfl, Nat.le_refl _, by decide, by decide, fun b1 => ⟨hS, fun b0 => ⟨hS, ⟨hS, fun β w' hs => (hs.keepB (List.nil_sublist _)).fin [2, 3, 1, 0] ⟨b0, b1, b2, b3, rfl, rfl⟩ rfl rfl rfl ⟨rfl, rfl, rfl, rfl, trivial⟩⟩⟩⟩⟩⟩⟩⟩⟩⟩⟩⟩, ⟨32, 32, rfl, rfl, Nat.le_refl _, by decide, by decide, fun b3 => ⟨hS, ⟨fun b0 => ⟨hS, ⟨⟨32, 32, rfl, rfl, Nat.le_refl _, by decide, by decide, fun b1 => ⟨hS, ⟨32, 32, rfl, rfl, Nat.le_refl _, by decide, by decide, fun b2 => ⟨hS, ⟨hS, fun β w' hs => (hs.keepB (List.nil_sublist _)).fin [3, 0, 1, 2] ⟨b0, b1, b2, b3, rfl, rfl⟩ rfl rfl rfl ⟨rfl, rfl, rfl, rfl, trivial⟩⟩⟩⟩⟩⟩, ⟨32, 32, rfl, rfl, Nat.le_refl _, by decide, by decide, fun b2 => ⟨hS, ⟨32, 32, rfl, rfl, Nat.le_refl _, by decide, by decide, fun b1 => ⟨hS, ⟨hS, fun β w' hs => (hs.keepB (List.nil_sublist _)).fin [3, 1, 0, 2] ⟨b0, b1, b2, b3, rfl, rfl⟩ rfl rfl rfl ⟨rfl, rfl, rfl, rfl, trivial⟩⟩⟩⟩⟩⟩⟩⟩, ⟨⟨32, 32, rfl, rfl, Nat.le_refl _, by decide, by decide, fun b1 => ⟨hS, ⟨fun b0 => ⟨hS, ⟨32, 32, rfl, rfl, Nat.le_refl _, by decide, by decide, fun b2 => ⟨hS, ⟨hS, fun β w' hs => (hs.keepB (List.nil_sublist _)).fin [3, 0, 2, 1] ⟨b0, b1, b2, b3, rfl, rfl⟩ rfl rfl rfl ⟨rfl, rfl, rfl, rfl, trivial⟩⟩⟩⟩⟩, ⟨32, 32, rfl, rfl, Nat.le_refl _, by decide, by decide, fun b2 => ⟨hS, fun b0 => ⟨hS, ⟨hS, fun β w' hs => (hs.keepB (List.nil_sublist _)).fin [3, 1, 2, 0] ⟨b0, b1, b2, b3, rfl, rfl⟩ rfl rfl rfl ⟨rfl, rfl, rfl, rfl, trivial⟩⟩⟩⟩⟩⟩⟩⟩, ⟨32, 32, rfl, rfl, Nat.le_refl _, by decide, by decide, fun b2 => ⟨hS, ⟨fun b0 => ⟨hS, ⟨32, 32, rfl, rfl, Nat.le_refl _, by decide, by decide, fun b1 => ⟨hS, ⟨hS, fun β w' hs => (hs.keepB (List.nil_sublist _)).fin [3, 2, 0, 1] ⟨b0, b1, b2, b3, rfl, rfl⟩ rfl rfl rfl ⟨rfl, rfl, rfl, rfl, trivial⟩⟩⟩⟩⟩, ⟨32, 32, rfl, rfl, Nat.le_refl _, by decide, by decide, fun b1 => ⟨hS, fun b0 => ⟨hS, ⟨hS, fun β w' hs => (hs.keepB (List.nil_sublist _)).fin [3, 2, 1, 0] ⟨b0, b1, b2, b3, rfl, rfl⟩ rfl rfl rfl ⟨rfl, rfl, rfl, rfl, trivial⟩⟩⟩⟩⟩⟩⟩⟩⟩⟩⟩⟩⟩⟩⟩
end Go.Proofs.YtkobpamlmfpidaaGreatDoor.Sx

/- Who there is: the document's example. -/
namespace Go.Proofs.YtkobpamlmfpidaaGreatDoor.Sx
open Go
attribute [local irreducible] Calls

theorem stoOut_eq {S : Sto} {r : Int × ASto} {v : Value} {Fs : List Fact} {e : Int} {X : ASto} (h : stoOut S r v Fs) (hr : r = (e, X)) : ∃ S', v = .int .i64 e ∧ S'.a = X ∧ S'.b = S.b ∧ Fs = [stoF S'] := by
  subst hr; exact h
def tT : ByteArray := ⟨#[116]⟩
def annT : ByteArray := ⟨#[97, 110, 110]⟩
def devT : ByteArray := ⟨#[100, 101, 118]⟩
def X0 : ASto := ⟨[], 0, 0⟩
def X1 : ASto := ⟨[(tT, [])], 0, 0⟩
def annC (gen : Nat) (roles : List ByteArray) (r : Bool) : ACrd := ⟨tT, annT, plainS, gen, roles, r⟩
def X2 (gen : Nat) (roles : List ByteArray) (r : Bool) (reads : Int) : ASto := ⟨[(tT, [annC gen roles r])], gen, reads⟩
theorem name_ann : nameA annT = (annT, 0) := by decide +kernel
theorem e1 : addT X0 tT = (0, X1) := by rfl
theorem e2 : addU X1 tT annT plainS = (0, X2 1 [] false 0) := by
  unfold addU
  rw [name_ann]
  rfl
theorem aone_X2 (gen : Nat) (roles : List ByteArray) (r : Bool) (reads : Int) : aone (X2 gen roles r reads) tT annT = some (annC gen roles r) := by
  unfold aone
  rw [name_ann]
  rfl
theorem e3 : grantE (X2 1 [] false 0) tT annT devT = (0, X2 2 [devT] false 0) := by
  unfold grantE
  rw [aone_X2]
  unfold updU
  rw [name_ann]
  rfl
theorem e4 : revU (X2 2 [devT] false 1) tT annT true = (0, X2 3 [devT] true 1) := by
  unfold revU
  rw [aone_X2]
  unfold updU
  rw [name_ann]
  rfl
theorem plainSz : ASz plainS := ⟨by decide, by decide, by decide, by decide⟩
/-- The secret of noughts, to be read. -/
theorem Sat.plainF {cx : Cx} {β : Va} {n : Nat} {H : List Bk} {w : World} {F : List Fact} {b0 b1 b2 b3 : Nat} (h : Sat cx β n H F w) (js : List Nat) (hj : takeIx F js = [rowZ b3, rowZ b2, rowZ b1, row1 b0]) (hn : nodupB js = true := by rfl) : Sat cx β n H (secF (plainX b0 b1 b2 b3) plainS :: dropIx js 0 F) w := by
  refine h.fuse js (secF (plainX b0 b1 b2 b3) plainS) (fun w hm => ?_) (fun k hk => ?_) hn (by rw [hj]; exact ⟨rfl, rfl, rfl, rfl, trivial⟩)
  · rw [hj] at hm
    exact ⟨rfl, rfl, rfl, rfl, rfl, row_rd (hm.fact (row1 b0) (by simp)), row_rd (hm.fact (rowZ b1) (by simp)), row_rd (hm.fact (rowZ b2) (by simp)), row_rd (hm.fact (rowZ b3) (by simp))⟩
  · rw [hj]
    obtain ⟨f, hf, hk⟩ := hk
    simp only [List.mem_cons, List.not_mem_nil, or_false] at hf
    rcases hf with rfl | rfl | rfl | rfl
    all_goals
      obtain ⟨_, ad, q, rfl⟩ := hk
      obtain rfl := Option.some.inj q
    · exact ⟨row1 b0, by simp, rfl⟩
    · exact ⟨rowZ b1, by simp, rfl⟩
    · exact ⟨rowZ b2, by simp, rfl⟩
    · exact ⟨rowZ b3, by simp, rfl⟩
def curA (X : ASto) (t u : ByteArray) (n : Int) : Bool := match aone X t u with
  | some a => !a.revoked && decide ((a.gen : Int) = n)
  | none => false
theorem current_a (w : World) (S : Sto) (t u : ByteArray) (n : Int) (h : (stoF S).p w) (hl : ∀ k, (stoF S).D k → k < w.heap.size) (hu : u.size ≤ 100000) (hn : NamT w) :
    Pu Tryz.prog n_cred_Store_Current #[ptr S.b, .string t, .string u, .int .u64 n] w (.bool (curA S.a t u n)) := by
  have h1 := current_c w S t u n h hl hu hn
  have e : curA S.a t u n = (match S.usr t u with | some c => !c.revoked && decide ((c.gen : Int) = n) | none => false) := by
    unfold curA
    cases hc : S.usr t u with
    | none => rw [usr_none hc]
    | some c =>
      obtain ⟨A, T, B, U, V, at_⟩ := usr_some hc
      rw [at_.is]
      rfl
  rw [e]
  exact h1
theorem stoR_a {S : Sto} {gen : Nat} {roles : List ByteArray} {r : Bool} (h : S.a = X2 gen roles r 0) : (stoR S).a = X2 gen roles r 1 := by
  show ASto.mk S.a.ts S.a.last (IntKind.u64.wrap (S.a.reads + 1)) = _
  rw [h]
  rfl
theorem cur_X2 (gen : Nat) (roles : List ByteArray) (r : Bool) (reads n : Int) : curA (X2 gen roles r reads) tT annT n = (!r && decide ((gen : Int) = n)) := by
  unfold curA
  rw [aone_X2]
  rfl
set_option maxHeartbeats 2000000 in
theorem awake14_c (w : World) (hm : Mem w [namF]) : Pu Tryz.prog n_ostiarylaw14_awake #[] w (.bool true) := by
  have g := good_ostiarylaw14_awake w (Un [])
  refine con_of_sx (cx := cx_ostiarylaw14_awake w (Un [])) g b_ostiarylaw14_awake rfl rfl (β := Va.z) [] 0 [] [namF] rfl rfl (hm.sat0 rfl (ownIn (Gs := []) (fun f hf => by
    obtain rfl := List.mem_singleton.1 hf; rfl))) ?_
  refine call_con [] (fun β w' hs => cnew_c w') ?_
  rintro v Fs ⟨b, m, rfl, rfl⟩
  refine call_con [0] (fun β w' hs => addTenant_c w' (sto0 b m) tT (by decide) (hs.mem.take (js := [0]) rfl)) ?_
  intro v Fs h
  obtain ⟨S1, rfl, a1, b1, rfl⟩ := stoOut_eq h e1
  replace b1 : S1.b = b := b1
  refine call_con [] (fun β w' hs => plain14_c w') ?_
  rintro v Fs ⟨c0, c1, c2, c3, rfl, rfl⟩
  refine call_conS [4] (R := stoOut S1 (0, X2 1 [] false 0)) (fun β w' hs => by
    have k := (hs.plainF [0, 1, 2, 3] rfl).perm [1, 0, 2]
    have h := add_c w' S1 tT annT (plainX c0 c1 c2 c3) plainS (by decide) plainSz k.mem
    rw [b1, a1, e2] at h
    exact h) ?_
  rintro v Fs ⟨S2, rfl, a2, b2, rfl⟩
  refine ⟨[], [stoF S2, namF], fun β w' hs => hs.perm [0, 5], ?_⟩
  replace b2 : S2.b = b := b2.trans b1
  replace a2 : S2.a = X2 1 [] false 0 := a2
  refine call_con [0] (R := stoOut S2 (0, X2 2 [devT] false 0)) (fun β w' hs => by
    have h := grantE_c w' S2 tT annT devT (by decide) (by decide) (fun a ha => by
      rw [a2, aone_X2] at ha
      obtain rfl := Option.some.inj ha
      exact ⟨by decide, fun r hr => by cases hr⟩) hs.mem
    rw [b2, a2, e3] at h
    exact h) ?_
  rintro v Fs ⟨S3, rfl, a3, b3, rfl⟩
  replace b3 : S3.b = b := b3.trans b2
  replace a3 : S3.a = X2 2 [devT] false 0 := a3
  refine call_con [0] (R := findOut S3 tT annT) (fun β w' hs => by
    have h := find_c w' S3 tT annT (by decide) (fun a ha => by
      rw [a3, aone_X2] at ha
      obtain rfl := Option.some.inj ha
      exact ⟨plainSz, by decide⟩) hs.mem
    rw [b3] at h
    exact h) ?_
  intro v Fs h
  unfold findOut at h
  rw [a3, aone_X2] at h
  obtain ⟨c, hc, rfl, rfl⟩ := h
  have a5 := stoR_a a3
  have b5 : (stoR S3).b = b := b3
  obtain ⟨cb, ct, cu, csec, cg, cA, cc, cr, cv⟩ := c
  simp only [Crd.a, annC, ACrd.mk.injEq] at hc
  obtain ⟨rfl, rfl, hsec, rfl, rfl, rfl⟩ := hc
  refine call_pu (v := .bool true) (fun β w' hs => by
    have h := current_a w' (stoR S3) tT annT 2 (hs.get 5 rfl) (hs.getLt 5 rfl) (by decide) (namF_T (hs.get 6 rfl))
    rw [a5, b5, cur_X2] at h
    exact h) ?_
  refine call_con [5] (R := stoOut (stoR S3) (0, X2 3 [devT] true 1)) (fun β w' hs => by
    have h := revoke_c w' (stoR S3) tT annT true (by decide) (hs.mem.take (js := [5, 6]) rfl)
    rw [b5, a5, e4] at h
    exact h) ?_
  rintro v Fs ⟨S4, rfl, a4, b4, rfl⟩
  replace b4 : S4.b = b := b4.trans b5
  replace a4 : S4.a = X2 3 [devT] true 1 := a4
  refine call_pu (v := .int .u64 3) (fun β w' hs => by
    have h := last_c w' S4 (hs.get 0 rfl) (hs.getLt 0 rfl)
    rw [b4, show S4.last = 3 from congrArg ASto.last a4] at h
    exact h) ?_
  refine call_pu (v := .bool false) (fun β w' hs => by
    have h := current_a w' S4 tT annT 3 (hs.get 0 rfl) (hs.getLt 0 rfl) (by decide) (namF_T (hs.get 6 rfl))
    rw [a4, b4, cur_X2] at h
    exact h) ?_
  intro β w' hs
  exact (hs.keepB (List.nil_sublist _)).fin [] ⟨rfl, rfl⟩
end Go.Proofs.YtkobpamlmfpidaaGreatDoor.Sx

/- CredPlays. -/
namespace Go.Proofs.YtkobpamlmfpidaaGreatDoor.Sx
open Go
attribute [local irreducible] Calls

structure OpC.In (o : OpC) (w : World) : Prop where
  ok : o.Ok
  x : SRd o.x.x o.x.a w
  s : SRd o.c.sec.x o.c.sec.a w
  r : Rd 1 o.c.rA o.c.roles.length (strs o.c.roles) w
theorem opC_len (o : OpC) : o.cells.length = 20 := rfl
theorem opC_at {w : World} {A : Option Addr} {ad : Addr} {ops : List OpC} (h : Rd 20 A ops.length (ops.flatMap OpC.cells) w) (hA : A = some ad) {k : Nat} {o : OpC} (ho : ops[k]? = some o) : ∀ j u, o.cells[j]? = some u → w.cell? ((ad.add (k * 20)).add j) = some u := by
  obtain ⟨hil, hie⟩ := List.getElem?_eq_some_iff.1 ho
  have h2 := Rd.elem (f := OpC.cells) opC_len h hA hil
  rw [hie] at h2
  exact h2
theorem sec_lt {x : SecV} {a : ASec} {w : World} (h : SRd x a w) : ∀ k, (secF x a).D k → k < w.heap.size := by
  rintro k ⟨f, hf, hk⟩
  simp only [List.mem_cons, List.not_mem_nil, or_false] at hf
  rcases hf with rfl | rfl | rfl | rfl
  · exact rd_lt h.r1 k hk
  · exact rd_lt h.r2 k hk
  · exact rd_lt h.r3 k hk
  · exact rd_lt h.r4 k hk
theorem Sat.opSub {cx : Cx} {β : Va} {n : Nat} {H : List Bk} {F : List Fact} {w W : World} (h : Sat cx β n H F w) (j : Nat) (hj : nth F j = some (oldF W)) {o : OpC} (ho : o.In W) : Sat cx β n H (crRd o.c :: secF o.x.x o.x.a :: F) w := by
  have ho1 := h.get j hj
  have k1 := h.sub j hj rfl (secF o.x.x o.x.a) rfl (ho.x.old ho1) (sec_lt ho.x)
  refine k1.sub (j + 1) hj rfl (crRd o.c) rfl ⟨ho.s.old ho1, Rd.old ho.r ho1⟩ (fun k hk => ?_)
  rcases hk with hk | hk
  · exact sec_lt ho.s k hk
  · exact rd_lt ho.r k hk
theorem mem_old {w : World} {f : Fact} (hf : f.own = false) (hm : Mem w [f]) : Mem w [oldF w, f] := by
  refine ⟨fun g hg => ?_, fun g hg k hk => ?_, List.pairwise_cons.2 ⟨fun g hg ho => ?_, List.pairwise_singleton _ _⟩⟩
  · rcases List.mem_cons.1 hg with rfl | hg
    · exact fun k _ => rfl
    · exact hm.fact g hg
  · rcases List.mem_cons.1 hg with rfl | hg
    · exact hk
    · exact hm.flt g hg k hk
  · obtain rfl := List.mem_singleton.1 hg
    rcases ho with ho | ho
    · cases ho
    · rw [hf] at ho; cases ho
def rs0 (b : Nat) : RS := ⟨b, none, 0, [], none, 0, [], [], 0, 0⟩
theorem two0 (b m b2 : Nat) : Two (some (sto0 b m)) (.st (rs0 b2)) :=
  ⟨⟨rfl, rfl, Nat.zero_le _, List.nodup_nil, Nat.zero_le _, fun p hp => (by cases hp), List.Pairwise.nil, List.Perm.refl _, List.Pairwise.nil, List.Perm.refl _⟩, ⟨Nat.le_refl _, Nat.le_refl _, Nat.zero_le _, Nat.zero_le _, List.Pairwise.nil, fun c hc => (by cases hc), fun c hc => (by cases hc)⟩⟩
/-- The document's store, new. -/
theorem Sat.rs0 {cx : Cx} {β : Va} {n : Nat} {H : List Bk} {F : List Fact} {w : World} {b : Nat} (h : Sat cx β n H (bkF b ty_ostiaryref14_Store (rs0 b).vs :: F) w) : Sat cx β n H (rsF (rs0 b) :: F) w := by
  have h1 := (h.nilPo.nilRow ty_ostiaryref14_Cred 10).noMem (strsF none []) ⟨rfl, fun q => by cases q⟩ (fun k hk => by obtain ⟨q, _⟩ := hk; cases q)
  have h2 := h1.sep [3, 0, 1, 2] rfl ⟨rfl, rfl, rfl, rfl, trivial⟩
  have e : dropIx [3, 0, 1, 2] 4 F = F := dropIx_skip (by decide)
  refine h2.weaken (List.Sublist.refl _) ?_
  show List.Sublist (_ :: F) (_ :: dropIx [3, 0, 1, 2] 4 F)
  rw [e]
  exact List.Sublist.refl _
end Go.Proofs.YtkobpamlmfpidaaGreatDoor.Sx

/- A script of credentials, read. -/
namespace Go.Proofs.YtkobpamlmfpidaaGreatDoor.Sx
open Go
attribute [local irreducible] Calls

theorem secret_of {w : World} {m : Nat} {cs : List Value} (h : Opens Tryz.prog w m ty_ostiaryref14_Secret cs) : ∃ x : Sec, cs = x.vs ∧ x.Cap ∧ SRd x.x x.a w := by
  have cU : Tryz.prog.cellsOf ty_uint8 = 1 := by kernel_rfl
  have cI : Tryz.prog.cellsOf ty_int = 1 := by kernel_rfl
  have cS : Tryz.prog.cellsOf ty_sl_uint8 = 1 := by kernel_rfl
  have cX : Tryz.prog.cellsOf ty_ostiaryref14_Secret = 5 := by kernel_rfl
  obtain ⟨m3, hl, hf⟩ := h.structT (ok35) rfl
  have f0 := hf 0 0 1 ty_sl_uint8 rfl rfl
  have f1 := hf 1 1 1 ty_int rfl rfl
  have f2 := hf 2 2 1 ty_sl_uint8 rfl rfl
  have f3 := hf 3 3 1 ty_sl_uint8 rfl rfl
  have f4 := hf 4 4 1 ty_sl_uint8 rfl rfl
  rw [cX] at hl
  rw [cS] at f0 f2 f3 f4
  rw [cI] at f1
  obtain ⟨x0, r0, rfl, k0⟩ := len_cons hl
  obtain ⟨x1, r1, rfl, k1⟩ := len_cons k0
  obtain ⟨x2, r2, rfl, k2⟩ := len_cons k1
  obtain ⟨x3, r3, rfl, k3⟩ := len_cons k2
  obtain ⟨x4, r4, rfl, k4⟩ := len_cons k3
  obtain rfl := List.eq_nil_of_length_eq_zero k4
  have by_ : ∀ {cs : List Value}, Opens Tryz.prog w m3 ty_sl_uint8 cs → ∃ (A : Option Addr) (p : List UInt8) (c : Nat), cs = [.slice A p.length c] ∧ p.length ≤ c ∧ c ≤ maxLen ∧ Bs w A p := fun h => h.bytes ((ok33).real (d := .slice ty_uint8) rfl rfl) ((ok5).real (d := .int .u8) rfl rfl) cU
  obtain ⟨A0, p0, c0, h0, g0, _, e0⟩ := by_ f0
  obtain ⟨it, h1, _, _⟩ := f1.int ((ok3).real (d := .int .i64) rfl rfl)
  obtain ⟨A2, p2, c2, h2, g2, _, e2⟩ := by_ f2
  obtain ⟨A3, p3, c3, h3, g3, _, e3⟩ := by_ f3
  obtain ⟨A4, p4, c4, h4, g4, _, e4⟩ := by_ f4
  simp at h0 h1 h2 h3 h4
  subst h0 h1 h2 h3 h4
  exact ⟨⟨⟨A0, c0, p0⟩, it, ⟨A2, c2, p2⟩, ⟨A3, c3, p3⟩, ⟨A4, c4, p4⟩⟩, rfl, ⟨g0, g2, g3, g4⟩, ⟨rfl, rfl, rfl, rfl, rfl, e0, e2, e3, e4⟩⟩
theorem cred_of {w : World} {m : Nat} {cs : List Value} (h : Opens Tryz.prog w m ty_ostiaryref14_Cred cs) : ∃ c : Crd, cs = c.vs ∧ c.sec.Cap ∧ SRd c.sec.x c.sec.a w ∧ Rd 1 c.rA c.roles.length (strs c.roles) w ∧ c.tenant.size ≤ maxLen ∧ c.user.size ≤ maxLen ∧ (∀ r ∈ c.roles, r.size ≤ maxLen) ∧ c.roles.length ≤ maxLen ∧ c.gen < 18446744073709551616 := by
  have cT : Tryz.prog.cellsOf ty_string = 1 := by kernel_rfl
  have cX : Tryz.prog.cellsOf ty_ostiaryref14_Secret = 5 := by kernel_rfl
  have cG : Tryz.prog.cellsOf ty_uint64 = 1 := by kernel_rfl
  have cL : Tryz.prog.cellsOf ty_sl_string = 1 := by kernel_rfl
  have cB : Tryz.prog.cellsOf ty_bool = 1 := by kernel_rfl
  have cC : Tryz.prog.cellsOf ty_ostiaryref14_Cred = 10 := by kernel_rfl
  obtain ⟨m3, hl, hf⟩ := h.structT (ok37) rfl
  have f0 := hf 0 0 1 ty_string rfl rfl
  have f1 := hf 1 1 1 ty_string rfl rfl
  have f2 := hf 2 2 5 ty_ostiaryref14_Secret rfl rfl
  have f3 := hf 3 7 1 ty_uint64 rfl rfl
  have f4 := hf 4 8 1 ty_sl_string rfl rfl
  have f5 := hf 5 9 1 ty_bool rfl rfl
  rw [cC] at hl
  rw [cT] at f0 f1
  rw [cX] at f2
  rw [cG] at f3
  rw [cL] at f4
  rw [cB] at f5
  obtain ⟨x0, r0, rfl, k0⟩ := len_cons hl
  obtain ⟨x1, r1, rfl, k1⟩ := len_cons k0
  obtain ⟨x2, r2, rfl, k2⟩ := len_cons k1
  obtain ⟨x3, r3, rfl, k3⟩ := len_cons k2
  obtain ⟨x4, r4, rfl, k4⟩ := len_cons k3
  obtain ⟨x5, r5, rfl, k5⟩ := len_cons k4
  obtain ⟨x6, r6, rfl, k6⟩ := len_cons k5
  obtain ⟨x7, r7, rfl, k7⟩ := len_cons k6
  obtain ⟨x8, r8, rfl, k8⟩ := len_cons k7
  obtain ⟨x9, r9, rfl, k9⟩ := len_cons k8
  obtain rfl := List.eq_nil_of_length_eq_zero k9
  obtain ⟨t, h0, s0⟩ := f0.str ((ok9).real (d := .string) rfl rfl)
  obtain ⟨u, h1, s1⟩ := f1.str ((ok9).real (d := .string) rfl rfl)
  obtain ⟨x, h2, s2, s3⟩ := secret_of f2
  obtain ⟨n, h3, n0, n1⟩ := f3.int ((ok29).real (d := .int .u64) rfl rfl)
  obtain ⟨A, k, c, xs, m4, h4, _, q2, q3, _, _, q6, q7⟩ := f4.slice ((ok27).real (d := .slice ty_string) rfl rfl)
  obtain ⟨b, h5⟩ := f5.bool ((ok4).real (d := .bool) rfl rfl)
  obtain ⟨ss, hsl, hfl, hok⟩ := list_choose (f := fun s : ByteArray => [Value.string s]) (p := fun s => s.size ≤ maxLen) (xs := xs) (fun y hy => (q7 y hy).str ((ok9).real (d := .string) rfl rfl))
  have hfm : ss.flatMap (fun s => [Value.string s]) = strs ss := flat_one Value.string ss
  rw [cT, hfl, hfm] at q6
  have hk : k = ss.length := by omega
  subst hk
  have hn : n = ((n.toNat : Nat) : Int) := by have : (0 : Int) ≤ n := n0; omega
  have hn1 : n ≤ 18446744073709551615 := n1
  simp at h0 h1 h3 h4 h5
  have h2' : x2 :: x3 :: x4 :: x5 :: x6 :: [] = x.vs := h2
  refine ⟨⟨0, t, u, x, n.toNat, A, c, ss, b⟩, ?_, s2, s3, q6, s0, s1, hok, by show ss.length ≤ maxLen; omega, by show n.toNat < _; omega⟩
  show _ = Value.string t :: Value.string u :: (x.vs ++ [.int .u64 (n.toNat : Int), .slice A ss.length c, .bool b])
  rw [← h2', h0, h1, h3, h4, h5, ← hn]
  rfl
theorem scriptC_of {w : World} {m : Nat} {A : Option Addr} {n c : Nat} (ho : Opens Tryz.prog w m ty_sl_ostiarylaw14_Op [.slice A n c]) : ∃ ops : List OpC, ops.length = n ∧ Rd 20 A ops.length (ops.flatMap OpC.cells) w ∧ (∀ o ∈ ops, o.In w) ∧ n ≤ maxLen := by
  obtain ⟨A', n', c', xs, m2, hcs, h1, h2, hxl, hnil, hlen, hr, hx⟩ := ho.slice ((ok22).real (d := .slice ty_ostiarylaw14_Op) rfl rfl)
  simp only [List.cons.injEq, and_true] at hcs
  injection hcs with e1 e2 e3
  subst e1 e2 e3
  have cO : Tryz.prog.cellsOf ty_ostiarylaw14_Op = 20 := by kernel_rfl
  have cU : Tryz.prog.cellsOf ty_uint8 = 1 := by kernel_rfl
  have cT : Tryz.prog.cellsOf ty_string = 1 := by kernel_rfl
  have cB : Tryz.prog.cellsOf ty_bool = 1 := by kernel_rfl
  have cX : Tryz.prog.cellsOf ty_ostiaryref14_Secret = 5 := by kernel_rfl
  have cC : Tryz.prog.cellsOf ty_ostiaryref14_Cred = 10 := by kernel_rfl
  obtain ⟨ops, hol, hfl, hok⟩ := list_choose (f := OpC.cells) (p := fun o => o.In w) (xs := xs) (fun x hxm => by
    obtain ⟨m3, hl, hf⟩ := (hx x hxm).structT (ok39) rfl
    have f0 := hf 0 0 1 ty_uint8 rfl rfl
    have f1 := hf 1 1 1 ty_string rfl rfl
    have f2 := hf 2 2 1 ty_string rfl rfl
    have f3 := hf 3 3 1 ty_string rfl rfl
    have f4 := hf 4 4 1 ty_bool rfl rfl
    have f5 := hf 5 5 5 ty_ostiaryref14_Secret rfl rfl
    have f6 := hf 6 10 10 ty_ostiaryref14_Cred rfl rfl
    rw [cO] at hl
    rw [cU] at f0
    rw [cT] at f1 f2 f3
    rw [cB] at f4
    rw [cX] at f5
    rw [cC] at f6
    obtain ⟨x0, r0, rfl, k0⟩ := len_cons hl
    obtain ⟨x1, r1, rfl, k1⟩ := len_cons k0
    obtain ⟨x2, r2, rfl, k2⟩ := len_cons k1
    obtain ⟨x3, r3, rfl, k3⟩ := len_cons k2
    obtain ⟨x4, r4, rfl, k4⟩ := len_cons k3
    obtain ⟨d, hd⟩ := f0.u8 ((ok5).real (d := .int .u8) rfl rfl)
    obtain ⟨t, ht, s1⟩ := f1.str ((ok9).real (d := .string) rfl rfl)
    obtain ⟨u, hu, s2⟩ := f2.str ((ok9).real (d := .string) rfl rfl)
    obtain ⟨r, hr, s3⟩ := f3.str ((ok9).real (d := .string) rfl rfl)
    obtain ⟨on, hon⟩ := f4.bool ((ok4).real (d := .bool) rfl rfl)
    obtain ⟨y, hy, y1, y2⟩ := secret_of f5
    obtain ⟨z, hz, z1, z2, z3, z4, z5, z6, z7, z8⟩ := cred_of f6
    simp at hd ht hu hr hon
    have hsplit : r4 = y.vs ++ z.vs := by
      have hy' : r4.take 5 = y.vs := by simpa using hy
      have hz' : (r4.drop 5).take 10 = z.vs := by simpa using hz
      have h10 : (r4.drop 5).take 10 = r4.drop 5 := List.take_of_length_le (by rw [List.length_drop]; omega)
      rw [h10] at hz'
      rw [← hy', ← hz', List.take_append_drop]
    refine ⟨⟨d, t, u, r, on, y, z⟩, ?_, ⟨⟨s1, s2, s3, y1, z1, z4, z5, z6, z7, z8⟩, y2, z2, z3⟩⟩
    rw [hsplit, hd, ht, hu, hr, hon]
    rfl)
  rw [cO, hfl] at hr
  rw [← hxl, ← hol] at hr
  exact ⟨ops, hol.trans hxl, hr, hok, Nat.le_trans h1 h2⟩
end Go.Proofs.YtkobpamlmfpidaaGreatDoor.Sx

/- Generations that were seen, plainly. -/
namespace Go.Proofs.YtkobpamlmfpidaaGreatDoor.Sx
open Go

/-- Generations that were seen, and whose they are. -/
abbrev SM := List (Nat × (ByteArray × ByteArray))
def slook : SM → Nat → Option (ByteArray × ByteArray)
  | [], _ => none
  | (k, v) :: r, s => if k = s then some v else slook r s
def sput : SM → Nat → (ByteArray × ByteArray) → SM
  | [], s, v => [(s, v)]
  | (k, u) :: r, s, v => if k = s then (s, v) :: r else (k, u) :: sput r s v
theorem slook_mem : ∀ {sm : SM} {g : Nat} {k : ByteArray × ByteArray}, slook sm g = some k → (g, k) ∈ sm
  | (a, v) :: r, g, k, h => by
    simp only [slook] at h
    split at h
    · rename_i e
      obtain rfl := Option.some.inj h
      rw [e]
      exact List.mem_cons_self
    · exact List.mem_cons_of_mem _ (slook_mem h)
theorem slook_put : ∀ (sm : SM) (g : Nat) (k : ByteArray × ByteArray) (x : Nat), slook (sput sm g k) x = if g = x then some k else slook sm x
  | [], g, k, x => by simp [sput, slook]
  | (a, v) :: r, g, k, x => by
    simp only [sput]
    split
    · rename_i e
      subst e
      simp only [slook]
      split <;> rfl
    · rename_i e
      simp only [slook, slook_put r g k x]
      by_cases h1 : a = x
      · rw [if_pos h1, if_pos h1, if_neg (fun q => e (h1.trans q.symm))]
      · rw [if_neg h1, if_neg h1]
theorem sput_mem : ∀ {sm : SM} {g : Nat} {k : ByteArray × ByteArray} {p : Nat × (ByteArray × ByteArray)}, p ∈ sput sm g k → p = (g, k) ∨ p ∈ sm
  | [], g, k, p, h => .inl (List.mem_singleton.1 h)
  | (a, v) :: r, g, k, p, h => by
    simp only [sput] at h
    split at h
    · rcases List.mem_cons.1 h with h | h
      · exact .inl h
      · exact .inr (List.mem_cons_of_mem _ h)
    · rcases List.mem_cons.1 h with h | h
      · exact .inr (by rw [h]; exact List.mem_cons_self)
      · rcases sput_mem h with h | h
        · exact .inl h
        · exact .inr (List.mem_cons_of_mem _ h)
structure GI (sm : SM) (X : ASto) : Prop where
  le : ∀ p ∈ sm, p.1 ≤ X.last
  ok : ∀ c ∈ crs X, ∀ k, slook sm c.gen = some k → k = (c.tenant, c.user)
  inj : ∀ c ∈ crs X, ∀ d ∈ crs X, c.gen = d.gen → c = d
theorem GI.step {sm : SM} {X X' : ASto} (h : GI sm X) (hg : ∀ c ∈ crs X, c.gen ≤ X.last) (s : GenStep X X') : GI sm X' := by
  refine ⟨fun p hp => Nat.le_trans (h.le p hp) s.le, fun c hc k hk => ?_, fun c hc d hd e => ?_⟩
  · rcases s.old c hc with q | ⟨q, _⟩
    · exact h.ok c q k hk
    · have := h.le _ (slook_mem hk)
      simp only at this
      omega
  · by_cases n1 : c ∈ crs X
    · by_cases n2 : d ∈ crs X
      · exact h.inj c n1 d n2 e
      · have h1 := hg c n1
        have h2 := (s.old d hd).resolve_left n2
        omega
    · by_cases n2 : d ∈ crs X
      · have h1 := hg d n2
        have h2 := (s.old c hc).resolve_left n1
        omega
      · exact s.one c hc d hd n1 n2
theorem GI.put {sm : SM} {X : ASto} (h : GI sm X) {c : ACrd} (hc : c ∈ crs X) (hg : c.gen ≤ X.last) : GI (sput sm c.gen (c.tenant, c.user)) X := by
  refine ⟨fun p hp => ?_, fun d hd k hk => ?_, h.inj⟩
  · rcases sput_mem hp with rfl | hp
    · exact hg
    · exact h.le p hp
  · rw [slook_put] at hk
    split at hk
    · rename_i e
      obtain rfl := Option.some.inj hk
      rw [h.inj c hc d hd e]
    · exact h.ok d hd k hk
theorem GenStep.was {sm : SM} {X X' : ASto} (h : GI sm X) (hg : ∀ c ∈ crs X, c.gen ≤ X.last) (s : GenStep X X') {d c : ACrd} (hd : d ∈ crs X) (hc : c ∈ crs X') (e : d.gen = c.gen) : d = c := by
  by_cases n1 : c ∈ crs X
  · exact h.inj d hd c n1 e
  · have h1 := hg d hd
    have h2 := (s.old c hc).resolve_left n1
    omega
theorem GI.read {sm : SM} {X : ASto} (h : GI sm X) (r : Int) : GI sm { X with reads := r } := ⟨h.le, h.ok, h.inj⟩
theorem GI.nil {X : ASto} (h : crs X = []) : GI [] X := ⟨fun p hp => (by cases hp), fun c hc => (by rw [h] at hc; cases hc), fun c hc => (by rw [h] at hc; cases hc)⟩
end Go.Proofs.YtkobpamlmfpidaaGreatDoor.Sx

/- A map whose keys are numbers, ranged over: the iterator as a fact. -/
namespace Go.Proofs.YtkobpamlmfpidaaGreatDoor.Sx
open Go
open Go.ChangeMaps (setBlock)
variable {kk : IntKind}

/-- A map under way: what came so far; what came last. -/
def itIP (kk : IntKind) (b r : Nat) (l ss : MLI) (cur : Option (Int × Value)) (w : World) : Prop :=
  ∃ (es ds : List MEI) (k since c0 : Nat) (seen : Array Nat), w.heap[b]? = some (.map (es.map (MEI.ent kk)).toArray k) ∧ MapIOk es k l ∧ w.heap[r]? = some (.mapIter (some b) since seen c0) ∧ r ≠ b ∧ (∀ e ∈ es, e.2.2 < since) ∧ since ≤ c0 ∧ since ≤ k ∧
    ds.map MEI.cut = ss ∧ seen.toList = ds.map (·.2.2) ∧ (∀ d ∈ ds, d ∈ es) ∧ (ds.map (·.2.2)).Nodup ∧
    ∀ x, cur = some x → ∃ (d : MEI) (s0 : Array Nat), d ∈ es ∧ d.cut = x ∧ seen = s0.push d.2.2 ∧ c0 = k
def itIF (kk : IntKind) (b r : Nat) (l ss : MLI) (cur : Option (Int × Value)) : Fact where
  own := true
  D := fun g => g = b ∨ g = r
  p := itIP kk b r l ss cur
  st := fun w w' hs ⟨es, ds, k, since, c0, seen, h1, h2, h3, h4⟩ => ⟨es, ds, k, since, c0, seen, by rw [hs b (.inl rfl)]; exact h1, h2, by rw [hs r (.inr rfl)]; exact h3, h4⟩
theorem born_inj {es : List MEI} {k : Nat} {l : MLI} (h : MapIOk es k l) {d e : MEI} (hd : d ∈ es) (he : e ∈ es) (q : d.2.2 = e.2.2) : d = e := by
  have hp := List.pairwise_map.1 h.inc
  clear h
  induction es with
  | nil => cases hd
  | cons a r ih =>
    obtain ⟨h1, h2⟩ := List.pairwise_cons.1 hp
    rcases List.mem_cons.1 hd with rfl | hd'
    · rcases List.mem_cons.1 he with rfl | he'
      · rfl
      · have := h1 e he'
        omega
    · rcases List.mem_cons.1 he with rfl | he'
      · have := h1 d hd'
        omega
      · exact ih hd' he' h2
theorem born_nodup {es : List MEI} {k : Nat} {l : MLI} (h : MapIOk es k l) : (es.map (·.2.2)).Nodup := h.inc.imp fun h => Nat.ne_of_lt h
theorem nodup_len : ∀ {xs ys : List Nat}, xs.Nodup → (∀ x ∈ xs, x ∈ ys) → xs.length ≤ ys.length
  | [], _, _, _ => Nat.zero_le _
  | x :: r, ys, hn, hs => by
    obtain ⟨h1, h2⟩ := List.nodup_cons.1 hn
    have hx := hs x (by simp)
    have ih := nodup_len (xs := r) (ys := ys.erase x) h2 fun y hy => (List.mem_erase_of_ne (fun q : y = x => h1 (q ▸ hy))).2 (hs y (by simp [hy]))
    have hl := List.length_erase_of_mem hx
    have hp := List.length_pos_of_mem hx
    simp only [List.length_cons]
    omega
def nxtV (kk : IntKind) : Option (Int × Value) → Value
  | none => .tuple #[.bool false]
  | some x => .tuple #[.bool true, .int kk x.1, x.2]
def NxtI (l ss : MLI) : Option (Int × Value) → Prop
  | none => ss.Perm l
  | some x => x ∈ l ∧ ss.length < l.length
def nxtF (kk : IntKind) (b r : Nat) (l ss : MLI) (cur : Option (Int × Value)) : Option (Int × Value) → Fact
  | none => itIF kk b r l ss cur
  | some x => itIF kk b r l (ss ++ [x]) (some x)
theorem perm_of {es ds : List MEI} (h1 : (es.map (·.2.2)).Nodup) (h2 : (ds.map (·.2.2)).Nodup) (hs : ∀ d ∈ ds, d ∈ es) (ha : ∀ e ∈ es, e ∈ ds) : ds.Perm es := by
  have n1 : es.Nodup := (List.pairwise_map.1 h1).imp fun {a b} q e => q (by rw [e])
  have n2 : ds.Nodup := (List.pairwise_map.1 h2).imp fun {a b} q e => q (by rw [e])
  exact (List.perm_ext_iff_of_nodup n2 n1).2 fun x => ⟨hs x, ha x⟩
section
variable {cx : Cx} {β : Va} {n : Nat} {H : List Bk} {F : List Fact} {w : World}
theorem Sat.rangeI (h : Sat cx β n H F w) (g : Good cx) (j : Nat) {b : Nat} {l : MLI} (hj : nth F j = some (mapIF kk b l)) {t kt et : TypeId} {i : TI} (hi : lk cx.tt t = some i := by rfl) (hd : i.desc = .map kt et := by rfl) :
    ∃ r w', (Instr.range t (.map (some b))).run cx.P w = .ok (.pointer (some ⟨r, 0, none⟩)) w' ∧ Sat cx β n H (putAt F j (itIF kk b r l [] none)) w' := by
  obtain ⟨es, k, hb, hm⟩ := h.get j hj
  have hlt : b < w.heap.size := (Array.getElem?_eq_some_iff.1 hb).1
  refine ⟨w.heap.size, _, run_range_map w t kt et b _ k ((g.ti hi).real (d := .map _ _) hd rfl) hb, h.upd hj rfl ((Chg.alloc w _).mono fun _ _ h => h.elim) ⟨es, [], k, k, k, #[], ?_, hm, heap_alloc_new w _, by omega, hm.lt, Nat.le_refl _, Nat.le_refl _, rfl, rfl, (fun d h => by cases h), List.nodup_nil, fun x h => by cases h⟩ (fun q hq => ?_)⟩
  · exact ((MapKept.heap_alloc w _).2 b hlt).trans hb
  · rcases hq with rfl | rfl
    · exact .inl rfl
    · exact .inr ⟨Nat.le_refl _, by simp⟩
theorem Sat.nextI (h : Sat cx β n H F w) (j : Nat) {b r : Nat} {l ss : MLI} {cur : Option (Int × Value)} (hj : nth F j = some (itIF kk b r l ss cur)) (ty : TypeId) :
    ∃ (o : {o : Option (Int × Value) // NxtI l ss o}) (w' : World), (Instr.next (.pointer (some ⟨r, 0, none⟩)) false ty).run cx.P w = .ok (nxtV kk o.1) w' ∧ Sat cx β n H (putAt F j (nxtF kk b r l ss cur o.1)) w' := by
  have hp := h.get j hj
  obtain ⟨es, ds, k, since, c0, seen, hb, hm, hr, hne, hold, hsc, hsk, hss, hseen, hsub, hnd, hcur⟩ := hp
  have hold' : ∀ x ∈ (es.map (MEI.ent kk)).toArray.toList, x.born < since := by
    intro x hx
    rw [List.toList_toArray] at hx
    obtain ⟨e, he, rfl⟩ := List.mem_map.1 hx
    exact hold e he
  have hin : ∀ e ∈ es, seen.contains e.2.2 = true → e ∈ ds := by
    intro e he q
    have q2 : e.2.2 ∈ ds.map (·.2.2) := by rw [← hseen]; simpa using q
    obtain ⟨d, hd, e2⟩ := List.mem_map.1 q2
    rwa [← born_inj hm (hsub d hd) he e2]
  rcases run_next_at (P := cx.P) w ty r b since c0 seen _ k hr hb hold' hsc with ⟨h0, hrun⟩ | ⟨e, he, w1, hal, hrun⟩
  · have hall : ∀ e ∈ es, e ∈ ds := by
      intro e he
      refine hin e he ?_
      cases q : seen.contains e.2.2 with
      | true => rfl
      | false =>
        have : (MEI.ent kk e) ∈ leftOf (es.map (MEI.ent kk)).toArray seen := by
          unfold leftOf
          rw [Array.mem_filter]
          exact ⟨by rw [List.mem_toArray]; exact List.mem_map.2 ⟨e, he, rfl⟩, by show (!seen.contains e.2.2) = true; rw [q]; rfl⟩
        have e0 := Array.eq_empty_of_size_eq_zero h0
        rw [e0] at this
        simp at this
    have hperm : ss.Perm l := by
      rw [← hss, ← hm.cut]
      exact (perm_of (born_nodup hm) hnd hsub hall).map _
    refine ⟨⟨none, hperm⟩, w, hrun, ?_⟩
    show Sat cx β n H (putAt F j (itIF kk b r l ss cur)) w
    exact h.upd hj rfl (Chg.refl _ _) (h.get j hj) (fun q hq => .inl hq)
  · unfold leftOf at he
    rw [Array.mem_toList_iff, Array.mem_filter] at he
    obtain ⟨he1, he2⟩ := he
    obtain ⟨d, hd, rfl⟩ : ∃ d ∈ es, MEI.ent kk d = e := by simpa using he1
    have hns : ¬ seen.contains d.2.2 = true := by
      intro q
      have q2 : (!seen.contains d.2.2) = true := he2
      rw [q] at q2
      cases q2
    have hnd2 : d ∉ ds := fun q => hns (by
      have : d.2.2 ∈ seen.toList := by rw [hseen]; exact List.mem_map.2 ⟨d, q, rfl⟩
      simpa using this)
    have hlen : ss.length < l.length := by
      have hx := nodup_len (xs := d.2.2 :: ds.map (·.2.2)) (ys := es.map (·.2.2)) (List.nodup_cons.2 ⟨fun q => ?_, hnd⟩) (fun x hx => ?_)
      · rw [← hss, ← hm.cut, List.length_map, List.length_map]
        simp only [List.length_cons, List.length_map] at hx
        omega
      · obtain ⟨d', hd', e2⟩ := List.mem_map.1 q
        rw [born_inj hm (hsub d' hd') hd e2] at hd'
        exact hnd2 hd'
      · rcases List.mem_cons.1 hx with rfl | hx
        · exact List.mem_map.2 ⟨d, hd, rfl⟩
        · obtain ⟨d', hd', rfl⟩ := List.mem_map.1 hx
          exact List.mem_map.2 ⟨d', hsub d' hd', rfl⟩
    have hmem : d.cut ∈ l := by rw [← hm.cut]; exact List.mem_map.2 ⟨d, hd, rfl⟩
    refine ⟨⟨some d.cut, hmem, hlen⟩, _, hrun, ?_⟩
    have hr1 : w1.heap[r]? = some (.mapIter (some b) since seen c0) := by rcases hal with rfl | rfl <;> exact hr
    have hb1 : w1.heap[b]? = some (.map (es.map (MEI.ent kk)).toArray k) := by rcases hal with rfl | rfl <;> exact hb
    have hset := MapKept.heap_set (o' := .mapIter (some b) since (seen.push d.2.2) k) hr1
    refine h.upd hj rfl ?_ ?_ (fun q hq => .inl hq)
    · rcases hal with rfl | rfl <;> exact ⟨rfl, rfl, rfl, by simp [setBlock], fun i _ hi => hset.2 i (fun e1 => hi (.inr e1))⟩
    · refine ⟨es, ds ++ [d], k, since, k, seen.push d.2.2, (hset.2 b (fun e1 => hne e1.symm)).trans hb1, hm, hset.1, hne, hold, hsk, hsk, ?_, ?_, ?_, ?_, ?_⟩
      · rw [List.map_append, hss]
        rfl
      · rw [Array.toList_push, hseen, List.map_append]
        rfl
      · intro x hx
        rcases List.mem_append.1 hx with hx | hx
        · exact hsub x hx
        · obtain rfl := List.mem_singleton.1 hx
          exact hd
      · rw [List.map_append]
        refine List.nodup_append.2 ⟨hnd, by simp, fun x hx y hy q => ?_⟩
        simp only [List.map_cons, List.map_nil, List.mem_singleton] at hy
        subst hy q
        rw [← hseen] at hx
        exact hns (by simpa using hx)
      · intro x hx
        cases hx
        exact ⟨d, seen, hd, rfl, rfl, rfl⟩
theorem Sat.entryI (h : Sat cx β n H F w) (j : Nat) {b r : Nat} {l ss : MLI} {x : Int × Value} (hj : nth F j = some (itIF kk b r l ss (some x))) :
    (Instr.entry (.pointer (some ⟨r, 0, none⟩))).run cx.P w = .ok (.tuple #[.int kk x.1, x.2]) w := by
  obtain ⟨es, ds, k, since, c0, seen, hb, hm, hr, hne, hold, hsc, hsk, hss, hseen, hsub, hnd, hcur⟩ := h.get j hj
  obtain ⟨d, s0, hd, rfl, rfl, rfl⟩ := hcur x rfl
  have hn : ((es.map (MEI.ent kk)).toArray.toList.map (·.born)).Nodup := by
    rw [List.toList_toArray, List.map_map]
    exact born_nodup hm
  exact run_entry_at w r b since s0 _ c0 (MEI.ent kk d) hr hb (by rw [List.toList_toArray]; exact List.mem_map.2 ⟨d, hd, rfl⟩) hn
end
end Go.Proofs.YtkobpamlmfpidaaGreatDoor.Sx

/- A map of numbers: its keys, one by one; collected. -/
namespace Go.Proofs.YtkobpamlmfpidaaGreatDoor.Sx
open Go
attribute [local irreducible] Calls

theorem Sat.endI {cx : Cx} {β : Va} {n : Nat} {H : List Bk} {F : List Fact} {w : World} {kk : IntKind} (h : Sat cx β n H F w) (j : Nat) {b r : Nat} {l ss : MLI} {cur : Option (Int × Value)} (hj : nth F j = some (itIF kk b r l ss cur)) : Sat cx β n H (putAt F j (mapIF kk b l)) w := by
  obtain ⟨es, ds, k, since, c0, seen, hb, hm, _⟩ := h.get j hj
  exact h.upd hj rfl (Chg.refl _ _) ⟨es, k, hb, hm⟩ (fun q hq => .inl (.inl hq))
theorem Sat.emptyI {cx : Cx} {β : Va} {n : Nat} {H : List Bk} {F : List Fact} {w : World} {kk : IntKind} (h : Sat cx β n H F w) (j : Nat) {b : Nat} (hj : nth F j = some (mapF b [])) : Sat cx β n H (putAt F j (mapIF kk b [])) w := by
  obtain ⟨es, k, hb, hm⟩ := h.get j hj
  obtain rfl : es = [] := List.map_eq_nil_iff.1 hm.cut
  exact h.upd hj rfl (Chg.refl _ _) ⟨[], k, hb, rfl, List.Pairwise.nil, fun _ q => by cases q⟩ (fun q hq => .inl hq)
end Go.Proofs.YtkobpamlmfpidaaGreatDoor.Sx

/- A map of numbers, written and cut. -/
namespace Go.Proofs.YtkobpamlmfpidaaGreatDoor.Sx
open Go

theorem Sat.mapPutI {cx : Cx} {β : Va} {n : Nat} {H : List Bk} {F : List Fact} {w : World} (h : Sat cx β n H F w) (g : Good cx) (j : Nat) {b : Nat} {l : MLI} {kk : IntKind} (hj : nth F j = some (mapIF kk b l)) {t kt et : TypeId} {i ik : TI} (s : Int) (v : Value) (hi : lk cx.tt t = some i := by rfl) (hd : i.desc = .map kt et := by rfl) (hik : lk cx.tt kt = some ik := by rfl) (hdk : ik.desc = .int kk := by rfl) :
    ∃ w', (Instr.mapUpdate t (.map (some b)) (.int kk s) v).run cx.P w = .ok () w' ∧ Sat cx β n H (putAt F j (mapIF kk b (iput l s v))) w' := by
  obtain ⟨o, e1, e2⟩ := run_putI (P := cx.P) ((g.ti hi).real (d := .map _ _) hd rfl) ((g.ti hik).real (d := .int kk) hdk rfl) (h.get j hj) s v
  exact ⟨_, e1, h.upd hj rfl (chg_put o) e2 (fun k hk => .inl hk)⟩
theorem Sat.mapPutIY {cx : Cx} {β : Va} {n : Nat} {H : List Bk} {F : List Fact} {w : World} (h : Sat cx β n H F w) (g : Good cx) (j : Nat) {b : Nat} {l : MLI} {kk : IntKind} (hj : nth F j = some (mapIF kk b l)) {t kt et : TypeId} {i ik : TI} (s : Int) (v : Value) (hi : lk cx.tt t = some i := by rfl) (hd : i.desc = .map kt et := by rfl) (hik : lk cx.tt kt = some ik := by rfl) (hdk : ik.desc = .int kk := by rfl) :
    ∃ (w' : World) (y : Nat), (Instr.mapUpdate t (.map (some b)) (.int kk s) v).run cx.P w = .ok () w' ∧ Sat cx β n H ((fun _ => putAt F j (mapIF kk b (iput l s v))) y) w' := by
  obtain ⟨w', e1, e2⟩ := h.mapPutI g j hj s v hi hd hik hdk
  exact ⟨w', 0, e1, e2⟩
end Go.Proofs.YtkobpamlmfpidaaGreatDoor.Sx

/- CredGens. -/
namespace Go.Proofs.YtkobpamlmfpidaaGreatDoor.Sx
open Go
attribute [local irreducible] Calls

def keyV (k : ByteArray × ByteArray) : Value := .agg #[.string k.1, .string k.2]
def sml (sm : SM) : MLI := sm.map fun p => ((p.1 : Int), keyV p.2)
theorem sml_look : ∀ (sm : SM) (g : Nat), ilook (sml sm) (g : Int) = (slook sm g).map keyV
  | [], _ => rfl
  | (a, v) :: r, g => by
    have ih := sml_look r g
    simp only [sml, List.map_cons, ilook, slook] at ih ⊢
    by_cases h : a = g
    · rw [if_pos (by omega), if_pos h]; rfl
    · rw [if_neg (by omega), if_neg h]; exact ih
theorem sml_put : ∀ (sm : SM) (g : Nat) (k : ByteArray × ByteArray), iput (sml sm) (g : Int) (keyV k) = sml (sput sm g k)
  | [], _, _ => rfl
  | (a, v) :: r, g, k => by
    have ih := sml_put r g k
    simp only [sml, List.map_cons, iput, sput] at ih ⊢
    by_cases h : a = g
    · rw [if_pos (by omega), if_pos h]; rfl
    · rw [if_neg (by omega), if_neg h, List.map_cons, ih]
theorem zero_key (w : World) : (zeroValue ty_ostiarylaw14_key).run Tryz.prog w = .ok (keyV (ByteArray.empty, ByteArray.empty)) w := by kernel_rfl
theorem key_fields : (Tryz.prog.fieldsOf ty_ostiarylaw14_key).toList.map (fun f => (f.name, f.type, f.offset)) = [("t", ty_string, 0), ("u", ty_string, 1)] := by kernel_rfl
theorem key_guard : Tryz.prog.eqGuardType Tryz.prog.depth ty_ostiarylaw14_key = false := by kernel_rfl
theorem key_held : Tryz.prog.stoodInHeld ty_ostiarylaw14_key = false := by kernel_rfl
theorem key_under : Tryz.prog.underlying ty_ostiarylaw14_key = some (.struct (Tryz.prog.fieldsOf ty_ostiarylaw14_key)) := by kernel_rfl
theorem str_agg (w : World) : (isAgg ty_string).run Tryz.prog w = .ok false w := (ok9).run_agg w
theorem neq_key (k : ByteArray × ByteArray) (p q : Operand) (w : World) : (binSem .neq ty_ostiarylaw14_key p q (keyV k) (keyV k)).run Tryz.prog w = .ok (.bool false) w := by
  have hstr : Tryz.prog.underlying ty_string = some .string := (ok9).real (d := .string) rfl rfl
  obtain ⟨f1, f2, hf, h1, h2⟩ : ∃ f1 f2 : Field, (Tryz.prog.fieldsOf ty_ostiarylaw14_key).toList = [f1, f2] ∧ (f1.name, f1.type, f1.offset) = ("t", ty_string, 0) ∧ (f2.name, f2.type, f2.offset) = ("u", ty_string, 1) := by
    have h := key_fields
    generalize (Tryz.prog.fieldsOf ty_ostiarylaw14_key).toList = fs at h ⊢
    rcases fs with _ | ⟨f1, _ | ⟨f2, _ | ⟨f3, r⟩⟩⟩
    · cases h
    · simp at h
    · simp only [List.map_cons, List.map_nil, List.cons.injEq, and_true] at h
      exact ⟨f1, f2, rfl, h.1, h.2⟩
    · simp at h
  simp only [Prod.mk.injEq] at h1 h2
  have he : (Op.equalIn 10000 ty_ostiarylaw14_key (keyV k) (keyV k)).run Tryz.prog w = .ok true w := by
    unfold keyV
    rw [run_equalIn_struct w 9999 _ _ _ key_under key_held, hf]
    have hp : ∀ (w : World), (part ty_string #[.string k.1, .string k.2] 0).run Tryz.prog w = .ok (.string k.1) w := fun w => by simp [part, str_agg]
    have hq : ∀ (w : World), (part ty_string #[.string k.1, .string k.2] 1).run Tryz.prog w = .ok (.string k.2) w := fun w => by simp [part, str_agg]
    have hi : ∀ (a b : ByteArray) (w : World), (Op.equalIn 9999 ty_string (.string a) (.string b)).run Tryz.prog w = .ok (a.toList == b.toList) w := fun a b w => run_equalIn_string w 9998 ty_string a b hstr
    have n1 : f1.name ≠ "_" := by rw [h1.1]; decide
    have n2 : f2.name ≠ "_" := by rw [h2.1]; decide
    simp only [Op.eqFields, n1, n2, ne_eq, not_false_eq_true, if_true, h1.2.1, h2.2.1, h1.2.2, h2.2.2, Sem.run_bind, hp, hq, hi, Result.andThen_ok, Sem.run_ite, Sem.run_pure]
    simp
  unfold binSem
  unfold keyV at he ⊢
  simp only [Sem.run_bind, run_eqGuard_agg w _ _ _ _ _ _ key_guard, Result.andThen_ok, run_neq_struct, he, Bool.not_true]
structure CgJ where
  k : Nat
  S : Sto
  R : RS
  sm : SM
/-- All is one, and what was seen is whose it is. -/
structure CgJ.Ok (j : CgJ) (sb rb : Nat) : Prop where
  sb : j.S.b = sb
  rb : j.R.b = rb
  two : Two (some j.S) (.st j.R)
  gi : GI j.sm j.S.a
  sz : ∀ p ∈ j.sm, p.2.2.size ≤ 32
set_option maxHeartbeats 1000000 in
theorem credGens_c (w : World) (A : Option Addr) (ops : List OpC) (c : Nat) (hA : Rd 20 A ops.length (ops.flatMap OpC.cells) w) (hin : ∀ o ∈ ops, o.In w) (hn : ops.length ≤ 9223372036854775807) (hm : Mem w [namF]) :
    Pu Tryz.prog n_ostiarylaw14_CredGens #[.slice A ops.length c] w (.bool true) := by
  have g := good_ostiarylaw14_CredGens w (Un [])
  have hs0 : Sat (cx_ostiarylaw14_CredGens w (Un [])) Va.z 0 [] [oldF w, namF] w := (mem_old rfl hm).sat0 rfl (fun f hf ho => by
    simp only [List.mem_cons, List.not_mem_nil, or_false] at hf
    rcases hf with rfl | rfl <;> cases ho)
  refine con_of_tri (cx := cx_ostiarylaw14_CredGens w (Un [])) g b_ostiarylaw14_CredGens rfl rfl (β := Va.z) [.c (.v (.slice A ops.length c))] 0 [] _ rfl rfl hs0 ?_
  refine tri_seq g ?_
  refine tri_seq g ?_
  refine call_pu (fun β w' hs => awake14_c w' (hs.mem.take (js := [1]) rfl)) ?_
  refine tri_seq g ?_
  refine call_con [] (fun β w' hs => cnew_c w') ?_
  rintro v Fs ⟨b, m, rfl, rfl⟩
  refine tri_seqJ (ι := CgJ × Nat) g (fun j => j.1.Ok b j.1.R.b) 0 (fun j => [(0, .c (.v (.slice A ops.length c))), (3, .c (.v (ptr b))), (4, .c (.v (ptr j.1.R.b))), (5, .c (.v (.map (some j.2))))]) (fun _ => []) (fun j => [stoF j.1.S, rsF j.1.R, mapIF .u64 j.2 (sml j.1.sm), oldF w, namF]) ?_ ?_
  rotate_left
  · intro mb
    refine EntX.reify 0 (fun b => (rs0 b).vs) rfl rfl (fun b => rfl) (fun b2 => ?_)
    exact EntX.of (⟨0, sto0 b m, rs0 b2, []⟩, mb) ⟨rfl, rfl, two0 b m b2, GI.nil rfl, fun p hp => (by cases hp)⟩ (Ent.mk' ⟨rfl, rfl, rfl, rfl, trivial⟩ rfl (fun β w' hs => by
      exact (((((hs.keepB (List.nil_sublist _)).rs0).emptyI (kk := .u64) 1 rfl).perm [2, 0, 1, 3, 4]).lower)))
  rintro ⟨⟨_, S, R, sm⟩, mb⟩ hj
  simp only at hj ⊢
  obtain ⟨rb, hrb⟩ : ∃ rb, R.b = rb := ⟨_, rfl⟩
  rw [hrb]
  refine tri_of g ?_
  refine loop_rule (ι := CgJ) 0 (fun j => [(26, .c (.v (.slice A ops.length c))), (27, .c (.v (.int .i64 (ops.length : Int)))), (28, .c (.v (.int .i64 (j.k : Int)))), (3, .c (.v (ptr b))), (4, .c (.v (ptr rb))), (5, .c (.v (.map (some mb))))]) (fun _ => []) (fun j => [stoF j.S, rsF j.R, mapIF .u64 mb (sml j.sm), oldF w, namF])
    (fun j => j.k ≤ ops.length ∧ j.Ok b rb) (fun j => ops.length - j.k) ⟨0, S, R, sm⟩ ⟨Nat.zero_le _, ⟨hj.sb, hrb, hj.two, hj.gi, hj.sz⟩⟩ (Ent.mk' ⟨rfl, rfl, rfl, rfl, rfl, rfl, trivial⟩ rfl (fun β w' hs => hs)) g ?_
  rintro ⟨k, S, R, sm⟩ ⟨hk, hjk⟩
  simp only at hk
  obtain ⟨hsb, hrb, h2, hgi, hsz⟩ := hjk
  simp only at hsb hrb h2 hgi hsz
  refine BIf.dec (fun hlt => ?_) (fun hge => ?_)
  rotate_left
  · intro β w' hs
    exact hs.fin [] ⟨rfl, rfl⟩
  have hlt0 : (k : Int) < ops.length := hlt
  obtain ⟨o, ho, hom⟩ := at_lt (show k < ops.length by omega)
  obtain ⟨ad, hA1, _⟩ := hA.2 (by omega)
  have hoi := hin o hom
  refine ⟨ad, k, hA1, rfl, by omega, o.cells, rfl, fun β w' hs => opC_at (Rd.old hA (hs.get 3 rfl)) hA1 ho, ?_⟩
  conv => whnf
  generalize hq : decide ((60 : Int) ≤ (k : Int)) = bq
  cases bq with
  | true =>
    intro β w' hs
    exact (hs.keepB (List.nil_sublist _)).fin [] ⟨rfl, rfl⟩
  | false =>
  generalize hH : setCells _ _ _ = HH
  obtain rfl : HH = [⟨0, ty_ostiarylaw14_Op, o.cells.map SL.v⟩] := hH.symm.trans (by kernel_rfl)
  clear hH
  obtain ⟨d2, hd2⟩ : ∃ d2 : UInt8, d2.toNat = o.d.toNat % 13 := ⟨UInt8.ofNat (o.d.toNat % 13), by rw [UInt8.toNat_ofNat']; omega⟩
  refine ⟨by decide, ?_⟩
  refine ⟨((d2.toNat : Nat) : Int), by rw [hd2]; exact Int.ofNat_tmod _ _, ?_⟩
  obtain ⟨o2, ho2⟩ : ∃ o2 : OpC, o2 = { o with d := d2 } := ⟨_, rfl⟩
  have ho2i : o2.In w := by rw [ho2]; exact ⟨⟨hoi.ok.t, hoi.ok.u, hoi.ok.r, hoi.ok.x, hoi.ok.c, hoi.ok.ct, hoi.ok.cu, hoi.ok.cr, hoi.ok.cl, hoi.ok.g0⟩, hoi.x, hoi.s, hoi.r⟩
  have hod : o2.d.toNat % 15 < 13 := by rw [ho2]; show d2.toNat % 15 < 13; omega
  conv => whnf
  generalize hH : setCells _ _ _ = HH
  obtain rfl : HH = [⟨0, ty_ostiarylaw14_Op, o2.cells.map SL.v⟩] := hH.symm.trans (by rw [ho2]; kernel_rfl)
  clear hH
  have hS1 := h2.1.stoOk
  refine call_con [0] (R := fun v Fs => ∃ A c cs, v = .slice A cs.length c ∧ cs.map Crd.a = allU S.a.ts ∧ (0 < cs.length → ∃ ad, A = some ad) ∧ Fs = [crowF A cs c, csF cs, stoF S]) (fun β w' hs => by have h := usersA_c w' S hS1 (hs.mem.take (js := [0]) rfl); rw [hsb] at h; exact h) ?_
  rintro v Fs ⟨A1, c1, was, rfl, hwas, hAw, rfl⟩
  refine call_con [2, 3] (R := doOut (some S) (.st R) o2.d) (fun β w' hs => by
    have h := do14_c w' (some S) (.st R) o2 h2 ho2i.ok ((hs.opSub 5 rfl ho2i).mem.take (js := [4, 5, 1, 0, 8]) rfl)
    rw [show ptrS (some S) = ptr b from congrArg ptr hsb, show (DS.st R).v = ptr rb from congrArg ptr hrb] at h
    exact h) ?_
  rintro v Fs ⟨S', D', rfl, q1, q2, q3, q4, rfl⟩
  obtain ⟨S2, R2, rfl, rfl⟩ : ∃ S2 R2, S' = some S2 ∧ D' = .st R2 := by
    cases S' with
    | none => cases q2
    | some S2 => cases D' with
      | no ps => exact q1.elim
      | st R2 => exact ⟨S2, R2, rfl, rfl⟩
  have hsb2 : S2.b = b := by
    have h : ptr S2.b = ptr S.b := q2
    unfold ptr at h
    injection h with h
    injection h with h
    injection h with h
    exact h.trans hsb
  have hrb2 : R2.b = rb := by
    have h : ptr R2.b = ptr R.b := q3
    unfold ptr at h
    injection h with h
    injection h with h
    injection h with h
    exact h.trans hrb
  have hstep : GenStep S.a S2.a := q4 hod
  have hgl : ∀ c ∈ crs S.a, c.gen ≤ S.a.last := fun c hc => h2.1.crs hc
  have hgi2 := hgi.step hgl hstep
  have hS2 := q1.1.stoOk
  refine call_con [0] (R := fun v Fs => ∃ A c cs, v = .slice A cs.length c ∧ cs.map Crd.a = allU S2.a.ts ∧ (0 < cs.length → ∃ ad, A = some ad) ∧ Fs = [crowF A cs c, csF cs, stoF S2]) (fun β w' hs => by have h := usersA_c w' S2 hS2 (hs.mem.take (js := [0]) rfl); rw [hsb2] at h; exact h) ?_
  rintro v Fs ⟨A2, c2, ds, rfl, hds, hAd, rfl⟩
  have hdm : ∀ y ∈ ds, y.a ∈ crs S2.a := fun y hy => by
    have h : y.a ∈ ds.map Crd.a := List.mem_map.2 ⟨y, hy, rfl⟩
    rw [hds, q1.1.all] at h
    exact q1.1.csp.mem_iff.1 h
  have hwm : ∀ y ∈ was, y.a ∈ crs S.a := fun y hy => by
    have h : y.a ∈ was.map Crd.a := List.mem_map.2 ⟨y, hy, rfl⟩
    rw [hwas, h2.1.all] at h
    exact h2.1.csp.mem_iff.1 h
  have hdl : ds.length ≤ 1000 := by have h := hS2.all; rw [← hds, List.length_map] at h; exact h
  have hwl : was.length ≤ 1000 := by have h := hS1.all; rw [← hwas, List.length_map] at h; exact h
  have hrl : ∀ y ∈ ds, y.roles.length ≤ 1000 := fun y hy => by
    have h := (q1.1.wf (c := y.a) (q1.1.csp.mem_iff.2 (hdm y hy))).r8
    exact Nat.le_trans h (by decide)
  have hwr : ∀ y ∈ was, y.roles.length ≤ 1000 := fun y hy => by
    have h := (h2.1.wf (c := y.a) (h2.1.csp.mem_iff.2 (hwm y hy))).r8
    exact Nat.le_trans h (by decide)
  have hysz : ∀ y ∈ ds, y.user.size ≤ 32 := fun y hy => by
    have h := (q1.1.wf (c := y.a) (q1.1.csp.mem_iff.2 (hdm y hy))).n
    have h2 := nameA_len y.user
    rw [show nameA y.user = _ from h] at h2
    exact h2
  refine loop_rule (ι := Nat × SM) 0 (fun j => [(26, .c (.v (.slice A ops.length c))), (27, .c (.v (.int .i64 (ops.length : Int)))), (28, .c (.v (.int .i64 (k : Int)))), (3, .c (.v (ptr b))), (4, .c (.v (ptr rb))), (5, .c (.v (.map (some mb)))), (8, .c (.v (.slice A1 was.length c1))), (47, .c (.v (.slice A2 ds.length c2))), (48, .c (.v (.int .i64 (ds.length : Int)))), (49, .c (.v (.int .i64 (j.1 : Int))))]) (fun _ => []) (fun j => [crowF A2 ds c2, csF ds, stoF S2, rsF R2, crowF A1 was c1, csF was, mapIF .u64 mb (sml j.2), oldF w, namF])
    (fun j => j.1 ≤ ds.length ∧ GI j.2 S2.a ∧ ∀ p ∈ j.2, p.2.2.size ≤ 32) (fun j => ds.length - j.1) (0, sm) ⟨Nat.zero_le _, hgi2, hsz⟩ (Ent.mk' ⟨rfl, rfl, rfl, rfl, rfl, rfl, rfl, rfl, rfl, rfl, trivial⟩ rfl (fun β w' hs => (hs.keepB (List.nil_sublist _)).lower)) g ?_
  have hgi0 := hgi
  clear hgi2 hsz
  rintro ⟨n, sm⟩ ⟨hnd, hgi, hsz⟩
  simp only at hnd hgi hsz
  refine BIf.dec (fun hlt2 => ?_) (fun hge2 => ?_)
  · have hlt20 : (n : Int) < ds.length := hlt2
    obtain ⟨y, hy, hym⟩ := at_lt (show n < ds.length by omega)
    obtain ⟨ae, hAe⟩ := hAd (by omega)
    refine ⟨ae, n, hAe, rfl, by omega, y.vs, rfl, fun β w' hs => crd_at (row_rd (hs.get 0 rfl)) hAe hy, ?_⟩
    refine ⟨rfl, ?_⟩
    refine ⟨keyV (ByteArray.empty, ByteArray.empty), fun w => zero_key w, sml sm, (slook sm y.gen).map keyV, fun β w' hs => hs.get 6 rfl, sml_look sm y.gen, ?_⟩
    have hyg := hgi.ok y.a (hdm y hym)
    have hyl : y.gen ≤ S2.last := q1.1.crs (hdm y hym)
    cases hsl : slook sm y.gen with
    | none =>
      refine draw_rule g p_ostiarylaw14_CredGens_18 (by kernel_rfl) [⟨2, ty_ostiarylaw14_key, [.v (.string ByteArray.empty), .v (.string ByteArray.empty)]⟩, ⟨1, ty_ostiarylaw14_key, [.v (.string y.tenant), .v (.string y.user)]⟩, ⟨0, ty_ostiaryref14_Cred, y.ss⟩] [] (fun β w hs => hs.perm []) ?_
      refine call_pu (v := .int .u64 (S2.last : Int)) (fun β w' hs => by have h := last_c w' S2 (hs.get 2 rfl) (hs.getLt 2 rfl); rw [hsb2] at h; exact h) ?_
      refine ⟨fun β w hs => hs.perm [], ?_⟩
      refine BIf.dec (fun hgt => ?_) (fun _ => ?_)
      · exfalso
        have hgt0 : (S2.last : Int) < (y.gen : Int) := hgt
        omega
      refine ⟨[⟨2, ty_ostiarylaw14_key, [.v (.string ByteArray.empty), .v (.string ByteArray.empty)]⟩, ⟨1, ty_ostiarylaw14_key, [.v (.string y.tenant), .v (.string y.user)]⟩, ⟨0, ty_ostiaryref14_Cred, y.ss⟩], fun _ => [crowF A2 ds c2, csF ds, stoF S2, rsF R2, crowF A1 was c1, csF was, mapIF .u64 mb (sml (sput sm y.gen (y.tenant, y.user))), oldF w, namF], fun β w' hs => by
        have h := hs.mapPutIY g 6 rfl (t := ty_map_uint64_ostiarylaw14_key) (y.gen : Int) (keyV (y.tenant, y.user))
        rw [sml_put] at h
        exact h, fun _ => ?_⟩
      refine loop_rule (ι := Nat) 3 (fun q => [(26, .c (.v (.slice A ops.length c))), (27, .c (.v (.int .i64 (ops.length : Int)))), (28, .c (.v (.int .i64 (k : Int)))), (3, .c (.v (ptr b))), (4, .c (.v (ptr rb))), (5, .c (.v (.map (some mb)))), (8, .c (.v (.slice A1 was.length c1))), (47, .c (.v (.slice A2 ds.length c2))), (48, .c (.v (.int .i64 (ds.length : Int)))), (49, .c (.v (.int .i64 (n : Int)))), (10, .c (.p 0 0)), (82, .c (.v (.slice A1 was.length c1))), (83, .c (.v (.int .i64 (was.length : Int)))), (84, .c (.v (.int .i64 (q : Int))))]) (fun _ => [⟨0, ty_ostiaryref14_Cred, y.ss⟩]) (fun _ => [crowF A2 ds c2, csF ds, stoF S2, rsF R2, crowF A1 was c1, csF was, mapIF .u64 mb (sml (sput sm y.gen (y.tenant, y.user))), oldF w, namF])
        (fun q => q ≤ was.length) (fun q => was.length - q) 0 (Nat.zero_le _) (Ent.mk' ⟨rfl, rfl, rfl, rfl, rfl, rfl, rfl, rfl, rfl, rfl, rfl, rfl, rfl, rfl, trivial⟩ rfl (fun β w' hs => hs.keepB ((List.sublist_cons_self _ _).trans (List.sublist_cons_self _ _)))) g ?_
      intro q hq
      refine BIf.dec (fun hlt3 => ?_) (fun hge3 => ?_)
      · have hlt30 : (q : Int) < was.length := hlt3
        obtain ⟨d, hd, hdm2⟩ := at_lt (show q < was.length by omega)
        obtain ⟨af, hAf⟩ := hAw (by omega)
        refine ⟨af, q, hAf, rfl, by omega, d.vs, rfl, fun β w' hs => crd_at (row_rd (hs.get 4 rfl)) hAf hd, ?_⟩
        refine BIf.dec (fun e1 => ?_) (fun e1 => ?_)
        rotate_left
        · skip
          refine ⟨((q + 1 : Nat) : Int), by rw [wrap_i64 (by omega) (by omega)]; rfl, ?_⟩
          exact ⟨q + 1, by omega, by omega, Ent.mk' ⟨rfl, rfl, rfl, rfl, rfl, rfl, rfl, rfl, rfl, rfl, rfl, rfl, rfl, rfl, trivial⟩ rfl (fun β w' hs => (hs.keepB (List.sublist_cons_self _ _)).lower)⟩
        refine BIf.dec (fun e2 => ?_) (fun e2 => ?_)
        rotate_left
        · skip
          refine ⟨((q + 1 : Nat) : Int), by rw [wrap_i64 (by omega) (by omega)]; rfl, ?_⟩
          exact ⟨q + 1, by omega, by omega, Ent.mk' ⟨rfl, rfl, rfl, rfl, rfl, rfl, rfl, rfl, rfl, rfl, rfl, rfl, rfl, rfl, trivial⟩ rfl (fun β w' hs => (hs.keepB (List.sublist_cons_self _ _)).lower)⟩
        refine BIf.dec (fun e3 => ?_) (fun e3 => ?_)
        rotate_left
        · skip
          refine ⟨((q + 1 : Nat) : Int), by rw [wrap_i64 (by omega) (by omega)]; rfl, ?_⟩
          exact ⟨q + 1, by omega, by omega, Ent.mk' ⟨rfl, rfl, rfl, rfl, rfl, rfl, rfl, rfl, rfl, rfl, rfl, rfl, rfl, rfl, trivial⟩ rfl (fun β w' hs => (hs.keepB (List.sublist_cons_self _ _)).lower)⟩
        have e30 : (d.gen : Int) = (y.gen : Int) := e3
        refine call_con [] (fun β w' hs => rSame_c w' d y (csF_at (hs.get 5 rfl) hdm2).1 (csF_at (hs.get 5 rfl) hdm2).2 (csF_at (hs.get 1 rfl) hym).1 (csF_at (hs.get 1 rfl) hym).2 (hwr d hdm2)) ?_
        rintro v Fs ⟨bb, rfl, hbb, rfl⟩
        obtain rfl : bb = true := hbb.2 (hstep.was hgi0 hgl (hwm d hdm2) (hdm y hym) (by show d.gen = y.gen; omega))
        refine ⟨((q + 1 : Nat) : Int), by rw [wrap_i64 (by omega) (by omega)]; rfl, ?_⟩
        exact ⟨q + 1, by omega, by omega, Ent.mk' ⟨rfl, rfl, rfl, rfl, rfl, rfl, rfl, rfl, rfl, rfl, rfl, rfl, rfl, rfl, trivial⟩ rfl (fun β w' hs => (hs.keepB (List.sublist_cons_self _ _)).lower)⟩
      · refine ⟨(((n + 1) : Nat) : Int), by rw [wrap_i64 (by omega) (by omega)]; rfl, ?_⟩
        exact ⟨(n + 1, sput sm y.gen (y.tenant, y.user)), ⟨by show n + 1 ≤ ds.length; omega, hgi.put (hdm y hym) hyl, fun p hp => by
          rcases sput_mem hp with rfl | hp
          · exact hysz y hym
          · exact hsz p hp⟩, by show ds.length - (n + 1) < ds.length - n; omega, Ent.mk' ⟨rfl, rfl, rfl, rfl, rfl, rfl, rfl, rfl, rfl, rfl, trivial⟩ rfl (fun β w' hs => (hs.keepB (List.nil_sublist _)).lower)⟩
    | some kk =>
      obtain rfl : kk = (y.tenant, y.user) := hyg kk hsl
      refine draw_rule g p_ostiarylaw14_CredGens_18 (by kernel_rfl) [⟨2, ty_ostiarylaw14_key, [.v (.string y.tenant), .v (.string y.user)]⟩, ⟨1, ty_ostiarylaw14_key, [.v (.string y.tenant), .v (.string y.user)]⟩, ⟨0, ty_ostiaryref14_Cred, y.ss⟩] [] (fun β w hs => hs.perm []) ?_
      refine ⟨false, fun β w' => neq_key (y.tenant, y.user) _ _ w', ?_⟩
      refine call_pu (v := .int .u64 (S2.last : Int)) (fun β w' hs => by have h := last_c w' S2 (hs.get 2 rfl) (hs.getLt 2 rfl); rw [hsb2] at h; exact h) ?_
      refine ⟨fun β w hs => hs.perm [], ?_⟩
      refine BIf.dec (fun hgt => ?_) (fun _ => ?_)
      · exfalso
        have hgt0 : (S2.last : Int) < (y.gen : Int) := hgt
        omega
      refine ⟨[⟨2, ty_ostiarylaw14_key, [.v (.string y.tenant), .v (.string y.user)]⟩, ⟨1, ty_ostiarylaw14_key, [.v (.string y.tenant), .v (.string y.user)]⟩, ⟨0, ty_ostiaryref14_Cred, y.ss⟩], fun _ => [crowF A2 ds c2, csF ds, stoF S2, rsF R2, crowF A1 was c1, csF was, mapIF .u64 mb (sml (sput sm y.gen (y.tenant, y.user))), oldF w, namF], fun β w' hs => by
        have h := hs.mapPutIY g 6 rfl (t := ty_map_uint64_ostiarylaw14_key) (y.gen : Int) (keyV (y.tenant, y.user))
        rw [sml_put] at h
        exact h, fun _ => ?_⟩
      refine loop_rule (ι := Nat) 3 (fun q => [(26, .c (.v (.slice A ops.length c))), (27, .c (.v (.int .i64 (ops.length : Int)))), (28, .c (.v (.int .i64 (k : Int)))), (3, .c (.v (ptr b))), (4, .c (.v (ptr rb))), (5, .c (.v (.map (some mb)))), (8, .c (.v (.slice A1 was.length c1))), (47, .c (.v (.slice A2 ds.length c2))), (48, .c (.v (.int .i64 (ds.length : Int)))), (49, .c (.v (.int .i64 (n : Int)))), (10, .c (.p 0 0)), (82, .c (.v (.slice A1 was.length c1))), (83, .c (.v (.int .i64 (was.length : Int)))), (84, .c (.v (.int .i64 (q : Int))))]) (fun _ => [⟨0, ty_ostiaryref14_Cred, y.ss⟩]) (fun _ => [crowF A2 ds c2, csF ds, stoF S2, rsF R2, crowF A1 was c1, csF was, mapIF .u64 mb (sml (sput sm y.gen (y.tenant, y.user))), oldF w, namF])
        (fun q => q ≤ was.length) (fun q => was.length - q) 0 (Nat.zero_le _) (Ent.mk' ⟨rfl, rfl, rfl, rfl, rfl, rfl, rfl, rfl, rfl, rfl, rfl, rfl, rfl, rfl, trivial⟩ rfl (fun β w' hs => hs.keepB ((List.sublist_cons_self _ _).trans (List.sublist_cons_self _ _)))) g ?_
      intro q hq
      refine BIf.dec (fun hlt3 => ?_) (fun hge3 => ?_)
      · have hlt30 : (q : Int) < was.length := hlt3
        obtain ⟨d, hd, hdm2⟩ := at_lt (show q < was.length by omega)
        obtain ⟨af, hAf⟩ := hAw (by omega)
        refine ⟨af, q, hAf, rfl, by omega, d.vs, rfl, fun β w' hs => crd_at (row_rd (hs.get 4 rfl)) hAf hd, ?_⟩
        refine BIf.dec (fun e1 => ?_) (fun e1 => ?_)
        rotate_left
        · skip
          refine ⟨((q + 1 : Nat) : Int), by rw [wrap_i64 (by omega) (by omega)]; rfl, ?_⟩
          exact ⟨q + 1, by omega, by omega, Ent.mk' ⟨rfl, rfl, rfl, rfl, rfl, rfl, rfl, rfl, rfl, rfl, rfl, rfl, rfl, rfl, trivial⟩ rfl (fun β w' hs => (hs.keepB (List.sublist_cons_self _ _)).lower)⟩
        refine BIf.dec (fun e2 => ?_) (fun e2 => ?_)
        rotate_left
        · skip
          refine ⟨((q + 1 : Nat) : Int), by rw [wrap_i64 (by omega) (by omega)]; rfl, ?_⟩
          exact ⟨q + 1, by omega, by omega, Ent.mk' ⟨rfl, rfl, rfl, rfl, rfl, rfl, rfl, rfl, rfl, rfl, rfl, rfl, rfl, rfl, trivial⟩ rfl (fun β w' hs => (hs.keepB (List.sublist_cons_self _ _)).lower)⟩
        refine BIf.dec (fun e3 => ?_) (fun e3 => ?_)
        rotate_left
        · skip
          refine ⟨((q + 1 : Nat) : Int), by rw [wrap_i64 (by omega) (by omega)]; rfl, ?_⟩
          exact ⟨q + 1, by omega, by omega, Ent.mk' ⟨rfl, rfl, rfl, rfl, rfl, rfl, rfl, rfl, rfl, rfl, rfl, rfl, rfl, rfl, trivial⟩ rfl (fun β w' hs => (hs.keepB (List.sublist_cons_self _ _)).lower)⟩
        have e30 : (d.gen : Int) = (y.gen : Int) := e3
        refine call_con [] (fun β w' hs => rSame_c w' d y (csF_at (hs.get 5 rfl) hdm2).1 (csF_at (hs.get 5 rfl) hdm2).2 (csF_at (hs.get 1 rfl) hym).1 (csF_at (hs.get 1 rfl) hym).2 (hwr d hdm2)) ?_
        rintro v Fs ⟨bb, rfl, hbb, rfl⟩
        obtain rfl : bb = true := hbb.2 (hstep.was hgi0 hgl (hwm d hdm2) (hdm y hym) (by show d.gen = y.gen; omega))
        refine ⟨((q + 1 : Nat) : Int), by rw [wrap_i64 (by omega) (by omega)]; rfl, ?_⟩
        exact ⟨q + 1, by omega, by omega, Ent.mk' ⟨rfl, rfl, rfl, rfl, rfl, rfl, rfl, rfl, rfl, rfl, rfl, rfl, rfl, rfl, trivial⟩ rfl (fun β w' hs => (hs.keepB (List.sublist_cons_self _ _)).lower)⟩
      · refine ⟨(((n + 1) : Nat) : Int), by rw [wrap_i64 (by omega) (by omega)]; rfl, ?_⟩
        exact ⟨(n + 1, sput sm y.gen (y.tenant, y.user)), ⟨by show n + 1 ≤ ds.length; omega, hgi.put (hdm y hym) hyl, fun p hp => by
          rcases sput_mem hp with rfl | hp
          · exact hysz y hym
          · exact hsz p hp⟩, by show ds.length - (n + 1) < ds.length - n; omega, Ent.mk' ⟨rfl, rfl, rfl, rfl, rfl, rfl, rfl, rfl, rfl, rfl, trivial⟩ rfl (fun β w' hs => (hs.keepB (List.nil_sublist _)).lower)⟩
  · refine ⟨Nat, fun r => .pointer (some ⟨r, 0, none⟩), fun r => [crowF A2 ds c2, csF ds, stoF S2, rsF R2, crowF A1 was c1, csF was, itIF .u64 mb r (sml sm) [] none, oldF w, namF], fun β w' ty hs => hs.rangeI g 6 rfl, fun r => ?_⟩
    refine loop_rule (ι := MLI × Option (Int × Value) × Sto × RS) 0 (fun i => [(26, .c (.v (.slice A ops.length c))), (27, .c (.v (.int .i64 (ops.length : Int)))), (28, .c (.v (.int .i64 (k : Int)))), (3, .c (.v (ptr b))), (4, .c (.v (ptr rb))), (5, .c (.v (.map (some mb)))), (116, .c (.v (.pointer (some ⟨r, 0, none⟩))))]) (fun _ => []) (fun i => [stoF i.2.2.1, rsF i.2.2.2, itIF .u64 mb r (sml sm) i.1 i.2.1, oldF w, namF])
      (fun i => i.2.2.1.b = b ∧ i.2.2.2.b = rb ∧ Two (some i.2.2.1) (.st i.2.2.2) ∧ GI sm i.2.2.1.a) (fun i => (sml sm).length - i.1.length) ([], none, S2, R2) ⟨hsb2, hrb2, q1, hgi⟩ (Ent.mk' ⟨rfl, rfl, rfl, rfl, rfl, rfl, rfl, trivial⟩ rfl (fun β w' hs => hs.perm [2, 3, 6, 7, 8])) g ?_
    rintro ⟨ss, cur, S3, R3⟩ ⟨hsb3, hrb3, h3, hgi3⟩
    simp only at hsb3 hrb3 h3 hgi3
    refine ⟨{o : Option (Int × Value) // NxtI (sml sm) ss o}, fun o => nxtV .u64 o.1, fun o => [stoF S3, rsF R3, nxtF .u64 mb r (sml sm) ss cur o.1, oldF w, namF], fun β w' ty hs => hs.nextI 2 rfl ty, ?_⟩
    rintro ⟨oo, hoo⟩
    cases oo with
    | none =>
      refine ⟨(((k + 1) : Nat) : Int), by rw [wrap_i64 (by omega) (by omega)]; rfl, ?_⟩
      exact ⟨⟨k + 1, S3, R3, sm⟩, ⟨by show k + 1 ≤ ops.length; omega, ⟨hsb3, hrb3, h3, hgi3, hsz⟩⟩, by show ops.length - (k + 1) < ops.length - k; omega, Ent.mk' ⟨rfl, rfl, rfl, rfl, rfl, rfl, trivial⟩ rfl (fun β w' hs => (hs.endI 2 rfl).lower)⟩
    | some x =>
      obtain ⟨⟨gN, kt, ku⟩, hxm, rfl⟩ : ∃ p : Nat × (ByteArray × ByteArray), p ∈ sm ∧ x = ((p.1 : Int), keyV p.2) := by
        obtain ⟨p, hp, e⟩ := List.mem_map.1 hoo.1
        exact ⟨p, hp, e.symm⟩
      have hlt4 : ss.length < (sml sm).length := hoo.2
      have hku : ku.size ≤ 32 := hsz _ hxm
      refine ⟨Unit, fun _ => .tuple #[.int .u64 (gN : Int), keyV (kt, ku)], fun _ => [stoF S3, rsF R3, itIF .u64 mb r (sml sm) (ss ++ [((gN : Int), keyV (kt, ku))]) (some ((gN : Int), keyV (kt, ku))), oldF w, namF], fun β w' ty hs => ⟨(), w', hs.entryI 2 rfl, hs⟩, fun _ => ?_⟩
      have hms : (sml sm).length - (ss ++ [((gN : Int), keyV (kt, ku))]).length < (sml sm).length - ss.length := by rw [List.length_append]; show _ - (ss.length + 1) < _; omega
      have h4 : Two (some (stoR S3)) (.st { R3 with reads := IntKind.u64.wrap (R3.reads + 1) }) := by
        have e : IntKind.u64.wrap (R3.reads + 1) = IntKind.u64.wrap (S3.reads + 1) := by rw [show R3.reads = S3.reads from h3.1.reads.symm]
        rw [e]
        exact ⟨h3.1.read _, ⟨h3.2.tc, h3.2.lc, h3.2.tn, h3.2.ln, h3.2.ris, h3.2.mem, h3.2.ro⟩⟩
      refine call_con [0] (R := fun v Fs => ∃ (c : Crd) (b : Bool), v = .tuple #[.agg c.vs.toArray, .bool b] ∧ FndO (some S3) kt ku c b ∧ c.sec.stored.l.length ≤ 1000000 ∧ Fs = crdBs c ++ [stoO ((some S3).map stoR)]) (fun β w' hs => by
        have h := findO w' (some S3) h3 kt ku (by omega) (hs.mem.take (js := [0, 4]) rfl)
        rw [show ptrS (some S3) = ptr b from congrArg ptr hsb3] at h
        exact h) ?_
      rintro v Fs ⟨cf, bf, rfl, hf, _, rfl⟩
      refine ⟨.int .u64 R3.reads, fun β w' hs => by rw [← hrb3]; exact bkc (rs_bk (R := R3) (hs.get 6 rfl)) rfl, ?_⟩
      refine ⟨IntKind.u64.wrap (R3.reads + 1), rfl, ?_⟩
      refine ⟨[rsF { R3 with reads := IntKind.u64.wrap (R3.reads + 1) }] ++ crdBs cf ++ [stoF (stoR S3), itIF .u64 mb r (sml sm) (ss ++ [((gN : Int), keyV (kt, ku))]) (some ((gN : Int), keyV (kt, ku))), oldF w, namF], fun β w' hs => by rw [← hrb3]; exact (hs.perm [6, 0, 1, 2, 3, 4, 5, 7, 8, 9]).rsReads _, ?_⟩
      cases bf with
      | false =>
        have hu : S3.usr kt ku = none := by
          rcases h3.1.usr kt ku with ⟨cp, _, ha⟩ | ⟨hu, _⟩
          · rw [show aone S3.a kt ku = none from hf] at ha; cases ha
          · exact hu
        refine call_pu (v := .bool false) (fun β w' hs => by
          have h := current_c w' (stoR S3) kt ku (gN : Int) (hs.get 6 rfl) (hs.getLt 6 rfl) (by omega) (namF_T (hs.get 9 rfl))
          rw [stoR_usr, hu, show (stoR S3).b = b from hsb3] at h
          exact h) ?_
        exact ⟨(ss ++ [((gN : Int), keyV (kt, ku))], some ((gN : Int), keyV (kt, ku)), stoR S3, { R3 with reads := IntKind.u64.wrap (R3.reads + 1) }), ⟨hsb3, hrb3, h4, hgi3.read _⟩, hms, Ent.mk' ⟨rfl, rfl, rfl, rfl, rfl, rfl, rfl, trivial⟩ rfl (fun β w' hs => ((hs.keepB (List.nil_sublist _)).perm [6, 0, 7, 8, 9]).lower)⟩
      | true =>
        obtain ⟨cp, hu, hca⟩ : ∃ cp, S3.usr kt ku = some cp ∧ cp.a = cf.a := by
          rcases h3.1.usr kt ku with ⟨cp, hu, ha⟩ | ⟨_, ha⟩
          · rw [show aone S3.a kt ku = some cf.a from hf] at ha
            exact ⟨cp, hu, (Option.some.inj ha).symm⟩
          · rw [show aone S3.a kt ku = some cf.a from hf] at ha; cases ha
        obtain ⟨cb, cte, cus, csec, cge, crA, crc, crl, crv⟩ := cf
        have e1 : cp.revoked = crv := congrArg ACrd.revoked hca
        have e2 : cp.gen = cge := congrArg ACrd.gen hca
        by_cases hge : (cge : Int) = (gN : Int)
        · cases crv with
          | true =>
            refine call_pu (v := .bool false) (fun β w' hs => by
              have h := current_c w' (stoR S3) kt ku (gN : Int) (hs.get 6 rfl) (hs.getLt 6 rfl) (by omega) (namF_T (hs.get 9 rfl))
              rw [stoR_usr, hu, show (stoR S3).b = b from hsb3] at h
              simp only [e1, e2, Bool.not_true, Bool.false_and] at h
              exact h) ?_
            refine BIf.dec (fun _ => ?_) (fun h => absurd hge h)
            exact ⟨(ss ++ [((gN : Int), keyV (kt, ku))], some ((gN : Int), keyV (kt, ku)), stoR S3, { R3 with reads := IntKind.u64.wrap (R3.reads + 1) }), ⟨hsb3, hrb3, h4, hgi3.read _⟩, hms, Ent.mk' ⟨rfl, rfl, rfl, rfl, rfl, rfl, rfl, trivial⟩ rfl (fun β w' hs => ((hs.keepB (List.nil_sublist _)).perm [6, 0, 7, 8, 9]).lower)⟩
          | false =>
            refine call_pu (v := .bool true) (fun β w' hs => by
              have h := current_c w' (stoR S3) kt ku (gN : Int) (hs.get 6 rfl) (hs.getLt 6 rfl) (by omega) (namF_T (hs.get 9 rfl))
              rw [stoR_usr, hu, show (stoR S3).b = b from hsb3] at h
              simp only [e1, e2, Bool.not_false, Bool.true_and, decide_eq_true hge] at h
              exact h) ?_
            refine BIf.dec (fun _ => ?_) (fun h => absurd hge h)
            exact ⟨(ss ++ [((gN : Int), keyV (kt, ku))], some ((gN : Int), keyV (kt, ku)), stoR S3, { R3 with reads := IntKind.u64.wrap (R3.reads + 1) }), ⟨hsb3, hrb3, h4, hgi3.read _⟩, hms, Ent.mk' ⟨rfl, rfl, rfl, rfl, rfl, rfl, rfl, trivial⟩ rfl (fun β w' hs => ((hs.keepB (List.nil_sublist _)).perm [6, 0, 7, 8, 9]).lower)⟩
        · skip
          refine call_pu (v := .bool false) (fun β w' hs => by
            have h := current_c w' (stoR S3) kt ku (gN : Int) (hs.get 6 rfl) (hs.getLt 6 rfl) (by omega) (namF_T (hs.get 9 rfl))
            rw [stoR_usr, hu, show (stoR S3).b = b from hsb3] at h
            simp only [e1, e2, decide_eq_false hge, Bool.and_false] at h
            exact h) ?_
          refine BIf.dec (fun h => absurd h hge) (fun _ => ?_)
          exact ⟨(ss ++ [((gN : Int), keyV (kt, ku))], some ((gN : Int), keyV (kt, ku)), stoR S3, { R3 with reads := IntKind.u64.wrap (R3.reads + 1) }), ⟨hsb3, hrb3, h4, hgi3.read _⟩, hms, Ent.mk' ⟨rfl, rfl, rfl, rfl, rfl, rfl, rfl, trivial⟩ rfl (fun β w' hs => ((hs.keepB (List.nil_sublist _)).perm [6, 0, 7, 8, 9]).lower)⟩
end Go.Proofs.YtkobpamlmfpidaaGreatDoor.Sx

/- What a statement's proof has of its arguments, in this executor's words. -/
namespace Go.Proofs.YtkobpamlmfpidaaGreatDoor.Sx
open Go Go.RowKit

theorem below_of {w w' : World} (h : Chg None_ w w') : Below w.heap.size w w' :=
  ⟨h.os, h.tape, h.output, h.size, fun k hk => h.same k hk (fun q => q)⟩
end Go.Proofs.YtkobpamlmfpidaaGreatDoor.Sx

/- Tables that are laid: what their cells are. -/
namespace Go.Proofs.YtkobpamlmfpidaaGreatDoor.Sx
open Go

end Go.Proofs.YtkobpamlmfpidaaGreatDoor.Sx

/- Tables that are laid, of any plain types: their cells are what they hold, in order. -/
namespace Go.Proofs.YtkobpamlmfpidaaGreatDoor.Sx
open Go

mutual
def lits {H : Type} : DataW H → Option (List Value)
  | .lit (.int k n) => some [.int k n]
  | .lit (.bool b) => some [.bool b]
  | .lit (.string l) => some [.string ⟨l.toArray⟩]
  | .agg ps => litsL ps
  | _ => none
def litsL {H : Type} : List (DataW H) → Option (List Value)
  | [] => some []
  | d :: r => match lits d, litsL r with
    | some a, some b => some (a ++ b)
    | _, _ => none
end
def contig (P : Program) : List Field → Nat → Option Nat
  | [], o => some o
  | f :: r, o => if f.offset = o then contig P r (o + P.cellsOf f.type) else none
def flatB (P : Program) : Nat → TypeId → Bool
  | 0, _ => false
  | n + 1, t => match P.underlying t with
    | some (.int _) | some .bool | some .string => true
    | some (.struct fs) => (match contig P fs.toList 0 with | some e => Nat.beq e (P.cellsOf t) | none => false) && fs.toList.all fun f => flatB P n f.type
    | some (.array m e) => Nat.beq (m * P.cellsOf e) (P.cellsOf t) && flatB P n e
    | _ => false
section
variable {H : Type} {enc : TypeId × Value → H} {P : Program} {w : World} {base : Nat} {sp : Nat → Bool} {held : Bool}
theorem fields_cat (m : Nat) (cs : List Value) : ∀ (fs : List Field) (xs : List (DataW H × List MemPlace)) (o e : Nat), contig P fs o = some e → xs.length = fs.length →
    (∀ (i : Nat) (f : Field), fs[i]? = some f → DataW.trod enc P w base sp held m f.type ((cs.drop f.offset).take (P.cellsOf f.type)) = xs[i]?) →
    (∀ f ∈ fs, ∀ cs' x, DataW.trod enc P w base sp held m f.type cs' = some x → lits x.1 = some cs') → o ≤ e ∧ litsL (xs.map (·.1)) = some ((cs.drop o).take (e - o))
  | [], xs, o, e, hc, hl, _, _ => by
    obtain rfl := Option.some.inj hc
    obtain rfl := List.eq_nil_of_length_eq_zero hl
    exact ⟨Nat.le_refl _, by simp [litsL]⟩
  | f :: r, [], o, e, hc, hl, _, _ => by cases hl
  | f :: r, x :: xs, o, e, hc, hl, h, ih => by
    simp only [contig] at hc
    split at hc
    · rename_i ho
      have h0 := h 0 f rfl
      rw [ho] at h0
      have h1 := ih f List.mem_cons_self _ x h0
      obtain ⟨h2, h3⟩ := fields_cat m cs r xs _ e hc (by simpa using hl) (fun i g hg => by
        have := h (i + 1) g (by simpa using hg)
        simpa using this) (fun g hg => ih g (List.mem_cons_of_mem _ hg))
      refine ⟨by omega, ?_⟩
      simp only [List.map_cons, litsL, h1, h3]
      congr 1
      have e1 : e - o = P.cellsOf f.type + (e - (o + P.cellsOf f.type)) := by omega
      rw [e1, List.take_add, List.drop_drop]
    · cases hc
theorem elems_cat (m k : Nat) (ty : TypeId) (cs : List Value) (hk : P.cellsOf ty = k) : ∀ (n : Nat) (xs : List (DataW H × List MemPlace)) (o : Nat), xs.length = n →
    (∀ i, i < n → DataW.trod enc P w base sp held m ty ((cs.drop (o + i * k)).take k) = xs[i]?) →
    (∀ cs' x, DataW.trod enc P w base sp held m ty cs' = some x → lits x.1 = some cs') → litsL (xs.map (·.1)) = some ((cs.drop o).take (n * k))
  | 0, xs, o, hl, _, _ => by
    obtain rfl := List.eq_nil_of_length_eq_zero hl
    simp [litsL]
  | n + 1, [], o, hl, _, _ => by cases hl
  | n + 1, x :: xs, o, hl, h, ih => by
    have h0 := h 0 (Nat.succ_pos _)
    rw [Nat.zero_mul, Nat.add_zero] at h0
    have h1 := ih _ x h0
    have h3 := elems_cat m k ty cs hk n xs (o + k) (by simpa using hl) (fun i hi => by
      have := h (i + 1) (by omega)
      rw [Nat.succ_mul, Nat.add_comm (i * k) k, ← Nat.add_assoc] at this
      simpa using this) ih
    simp only [List.map_cons, litsL, h1, h3]
    congr 1
    rw [Nat.succ_mul, Nat.add_comm (n * k) k, List.take_add, List.drop_drop]
theorem cells_of : ∀ (k m : Nat) (t : TypeId) (cs : List Value) (x : DataW H × List MemPlace), flatB P k t = true → DataW.trod enc P w base sp held m t cs = some x → lits x.1 = some cs
  | 0, _, _, _, _, h, _ => by cases h
  | k + 1, m, t, cs, x, h, hd => by
    unfold flatB at h
    split at h
    · rename_i ht
      obtain ⟨n, rfl, rfl, _⟩ := DataW.trod_int ht hd
      rfl
    · rename_i ht
      obtain ⟨n, rfl, rfl⟩ := DataW.trod_bool ht hd
      rfl
    · rename_i ht
      obtain ⟨s, rfl, rfl, _⟩ := DataW.trod_string ht hd
      cases s with | mk a => simp [lits, ByteArray.toList_eq]
    · rename_i fs ht
      obtain ⟨xs, n, rfl, rfl, hl, hxl, hel⟩ := DataW.trod_struct ht hd
      simp only [Bool.and_eq_true] at h
      obtain ⟨hcon, hall⟩ := h
      cases hc : contig P fs.toList 0 with
      | none => rw [hc] at hcon; cases hcon
      | some e =>
        rw [hc] at hcon
        have he := Nat.eq_of_beq_eq_true hcon
        subst he
        have := (fields_cat n cs fs.toList xs 0 _ hc (by simpa using hxl) (fun i f hf => hel i f (by simpa using hf)) (fun f hf cs' x' hx => cells_of k n f.type cs' x' (List.all_eq_true.1 hall f hf) hx)).2
        simp only [lits, this, List.drop_zero, Nat.sub_zero]
        rw [← hl, List.take_length]
    · rename_i n e ht
      obtain ⟨xs, m', rfl, rfl, hl, hxl, hel⟩ := DataW.trod_array ht hd
      simp only [Bool.and_eq_true] at h
      have he := Nat.eq_of_beq_eq_true h.1
      have := elems_cat m' (P.cellsOf e) e cs rfl n xs 0 hxl (fun i hi => by rw [Nat.zero_add]; exact hel i hi) (fun cs' x' hx => cells_of k m' e cs' x' h.2 hx)
      simp only [lits, this, List.drop_zero, he]
      rw [← hl, List.take_length]
    · cases h
theorem rd_of_laid {g n size m : Nat} {t : TypeId} {cs : Array Value} {d : DataW H} {q : List MemPlace} {vs : List Value} (hf : flatB P 5 t = true) (hv : lits d = some vs) (hn : vs.length = n * size)
    (hd : DataW.trod enc P w base sp held m t cs.toList = some (d, q)) (hcell : ∀ j, w.cell? ⟨g, j, none⟩ = cs[j]?) : Rd size (some ⟨g, 0, none⟩) n vs w := by
  have h := cells_of 5 m t _ _ hf hd
  rw [hv] at h
  have h' := Option.some.inj h
  refine ⟨hn, fun _ => ⟨_, rfl, fun j u hu => ?_⟩⟩
  rw [add_none, Nat.zero_add, hcell j, ← Array.getElem?_toList, ← h']
  exact hu
end
end Go.Proofs.YtkobpamlmfpidaaGreatDoor.Sx
