/- Texts joined: Sto6, Sto7, Sto8, Aw14, Law14, SxArg, Laid, Laid2. -/
import Derived.Test.YthkjfepbmnabkaaDoorMCF4
import Derived.Test.YthkjfepbmnabkaaDoorMCF2
import Derived.Below
import Derived.OpenShut
import Derived.ChangeArms
import Derived.LaidMore
set_option linter.unusedVariables false
set_option linter.unusedSimpArgs false
/- Who there is: who is revoked, or goes. -/
namespace Go.Proofs.YthkjfepbmnabkaaDoor.Sx
open Go
attribute [local irreducible] Calls

/-! ### an entry goes -/
theorem fnd_none_del {s : ByteArray} : ∀ {es : List ME} {i : Nat}, fnd s es i = none → mdel (es.map ME.cut) s = es.map ME.cut
  | [], _, _ => rfl
  | e :: r, i, h => by
    simp only [fnd] at h
    split at h
    · cases h
    · rename_i hne
      simp only [List.map_cons, mdel, ME.cut, if_neg hne]
      exact congrArg (List.cons _) (fnd_none_del h)
theorem erase_mid {α : Type} (x : α) (c : List α) : ∀ a : List α, (a ++ x :: c).eraseIdx a.length = a ++ c
  | [] => rfl
  | y :: a => by simp [erase_mid x c a]
theorem run_del {P : Program} {t tk kt et : TypeId} (ht : P.underlying t = some (.map kt et)) (hk : P.underlying kt = some .string) {w : World} {b : Nat} {l : ML} (h : mapP b l w) (s : ByteArray) (ty : TypeId) (cst : Array Bool) :
    ∃ o, (builtin .delete #[t, tk] ty cst #[.map (some b), .string s]).run P w = .ok (.value (.tuple #[])) (w.putObj b o) ∧ mapP b (mdel l s) (w.putObj b o) := by
  obtain ⟨es, k, hb, hm⟩ := h
  have hlt : b < w.heap.size := (Array.getElem?_eq_some_iff.1 hb).1
  have hg : (getObj b).run P w = .ok (.map (es.map ME.ent).toArray k) w := MapKept.run_getObj_map hb
  have hput : ∀ o, (w.putObj b o).heap[b]? = some o := fun o => World.putObj_heap_same hlt
  cases hf : fnd s es 0 with
  | none =>
    refine ⟨.map (es.map ME.ent).toArray k, ?_, es, k, hput _, ?_, hm.inc, hm.lt⟩
    · have h1 := MapKept.run_setObj_map (P := P) (.map (es.map ME.ent).toArray k) hb
      have h2 := run_findKey (P := P) hk s es w
      rw [hf] at h2
      have h1' : (setObj b (.map (es.map ME.ent).toArray k)).run P w = .ok () (w.putObj b (.map (es.map ME.ent).toArray k)) := h1
      simp only [builtin, Builtin.delete_, Sem.run_bind, run_underlying ht, hg, run_checkKey hk, h2, Result.andThen_ok, Sem.run_pure, List.getElem?_toArray, List.getElem?_cons_zero, List.getElem?_cons_succ, h1']
    · rw [← hm.cut]; exact (fnd_none_del hf).symm
  | some q =>
    obtain ⟨j, u⟩ := q
    obtain ⟨a, c, t0, rfl, hj, _, h2⟩ := fnd_some hf
    rw [Nat.zero_add] at hj
    subst hj
    have he : ((a ++ (s, u, t0) :: c).map ME.ent).toArray.eraseIdxIfInBounds a.length = ((a ++ c).map ME.ent).toArray := by
      apply Array.ext'
      have := erase_mid (ME.ent (s, u, t0)) (c.map ME.ent) (a.map ME.ent)
      rw [List.length_map] at this
      simp [Array.eraseIdxIfInBounds, List.map_append, this]
    refine ⟨.map ((a ++ c).map ME.ent).toArray k, ?_, a ++ c, k, hput _, by rw [h2, hm.cut], ?_, fun e he' => hm.lt e ?_⟩
    · have h1 := MapKept.run_setObj_map (P := P) (.map ((a ++ c).map ME.ent).toArray k) hb
      have h3 := run_findKey (P := P) hk s (a ++ (s, u, t0) :: c) w
      rw [hf] at h3
      have h1' : (setObj b (.map ((a ++ c).map ME.ent).toArray k)).run P w = .ok () (w.putObj b (.map ((a ++ c).map ME.ent).toArray k)) := h1
      simp only [builtin, Builtin.delete_, Sem.run_bind, run_underlying ht, hg, run_checkKey hk, h3, Result.andThen_ok, Sem.run_pure, List.getElem?_toArray, List.getElem?_cons_zero, List.getElem?_cons_succ, he, h1']
    · have := hm.inc
      rw [List.map_append, List.map_cons] at this
      rw [List.map_append]
      exact this.sublist ((List.sublist_cons_self _ _).append_left _)
    · rcases List.mem_append.1 he' with q | q
      · exact List.mem_append_left _ q
      · exact List.mem_append_right _ (List.mem_cons_of_mem _ q)
theorem Sat.mapDel {cx : Cx} {β : Va} {n : Nat} {H : List Bk} {F : List Fact} {w : World} (h : Sat cx β n H F w) (g : Good cx) (j : Nat) {b : Nat} {l : ML} (hj : nth F j = some (mapF b l)) {t tk kt et : TypeId} {i ik : TI} (s : ByteArray) (ty : TypeId) (cst : Array Bool) (hi : lk cx.tt t = some i := by rfl) (hd : i.desc = .map kt et := by rfl) (hik : lk cx.tt kt = some ik := by rfl) (hdk : ik.desc = .string := by rfl) :
    ∃ w', (builtin .delete #[t, tk] ty cst #[.map (some b), .string s]).run cx.P w = .ok (.value (.tuple #[])) w' ∧ Sat cx β n H (putAt F j (mapF b (mdel l s))) w' := by
  obtain ⟨o, e1, e2⟩ := run_del (P := cx.P) (tk := tk) ((g.ti hi).real (d := .map _ _) hd rfl) ((g.ti hik).real (d := .string) hdk rfl) (h.get j hj) s ty cst
  exact ⟨_, e1, h.upd hj rfl (chg_put o) e2 (fun k hk => .inl hk)⟩

/-! ### who goes -/
theorem sto_shutT {c0 : Cx} {w : World} {S : Sto} {A B : List Ten} {T : Ten} {us : List Crd} {last : Nat} {mm : ML} (hT : S.ts = A ++ T :: B) (hn : mm = us.map fun c : Crd => (c.user, ptr c.b))
    (h0 : Sat c0 Va.z 0 [] [bkF S.b ty_cred_Store [.map (some S.m), .int .u64 (last : Int), .int .u64 S.reads], mapF T.b mm, sepF (us.map crdF), mapF S.m S.ml, sepF ((A ++ B).map tenF)] w) :
    Sat c0 Va.z 0 [] [stoF { S with ts := A ++ { T with us := us } :: B, last := last }] w := by
  subst hn
  have h4 := h0.sep [1, 2]
  have h4' : Sat c0 Va.z 0 [] [tenF { T with us := us }, bkF S.b ty_cred_Store [.map (some S.m), .int .u64 (last : Int), .int .u64 S.reads], mapF S.m S.ml, sepF (A.map tenF ++ B.map tenF)] w := by
    rw [← List.map_append]
    exact h4
  have h5 := h4'.blur 0 3 (A := A.map tenF) (B := B.map tenF) (x := tenF { T with us := us }) rfl rfl rfl (by decide)
  have h6 := h5.sep [1, 2, 0]
  have e : stoF { S with ts := A ++ { T with us := us } :: B, last := last } = sepF [bkF S.b ty_cred_Store [.map (some S.m), .int .u64 (last : Int), .int .u64 S.reads], mapF S.m S.ml, sepF (A.map tenF ++ tenF { T with us := us } :: B.map tenF)] := by
    unfold stoF Sto.ml
    rw [hT]
    simp [Sto.vs]
  rw [e]
  exact h6
def dropU (X : ASto) (t u : ByteArray) : Int × ASto := match aone X t u with
  | none => (6, X)
  | some _ => (0, { X with ts := atenU X.ts t (fun us => ausrD us (nameA u).1) })
theorem drop_c (w : World) (S : Sto) (t u : ByteArray) (hu : u.size ≤ 100000) (hm : Mem w [stoF S, namF]) : Con Tryd.prog n_cred_Store_Drop #[ptr S.b, .string t, .string u] w [stoF S] (stoOut S (dropU S.a t u)) := by
  have g := good_cred_Store_Drop w (Un [stoF S])
  refine con_of_sx (cx := cx_cred_Store_Drop w (Un [stoF S])) g b_cred_Store_Drop rfl rfl (β := Va.z) [.c (.v (ptr S.b)), .c (.v (.string t)), .c (.v (.string u))] 0 [] [stoF S, namF] rfl rfl (hm.sat0 rfl (ownIn (Gs := [stoF S]) (fun f hf => by
    obtain rfl := List.mem_singleton.1 hf; rfl))) ?_
  cases hc : S.usr t u with
  | none =>
    refine call_pu (v := .pointer none) (fun β w' hs => by
      have h := get_c w' S t u (hs.get 0 rfl) (hs.getLt 0 rfl) hu (namF_T (hs.get 1 rfl))
      rw [hc] at h
      exact h) ?_
    intro β w' hs
    refine hs.fin [0] (stoOut_same ?_)
    unfold dropU
    rw [usr_none hc]
  | some c =>
    obtain ⟨A, T, B, U, V, at_⟩ := usr_some hc
    refine call_puS (v := ptr c.b) (fun β w' hs => by
      have h := get_c w' S t u (hs.get 0 rfl) (hs.getLt 0 rfl) hu (namF_T (hs.get 1 rfl))
      rw [hc] at h
      exact h) [] [mapF S.m S.ml, sepF ((A ++ B).map tenF), mapF T.b T.m, sepF ((U ++ V).map crdF), bkF S.b ty_cred_Store S.vs, bkF c.b ty_cred_Cred c.vs, sepF c.parts, namF] (fun β w' hs => (hs.recut [0] (sto_open at_.ten at_.crd)).unsep 3 rfl) ?_
    refine draw_rule g p_cred_Store_Drop_4 (by kernel_rfl) [] [mapF S.m S.ml, bkF S.b ty_cred_Store S.vs, bkF c.b ty_cred_Cred c.vs] (subPerm [0, 4, 5]) ?_
    refine ⟨.map (some S.m), fun β w' hs => bkc (hs.get 1 rfl) rfl, ?_⟩
    refine ⟨.map none, fun w => zero_map w, S.ml, some (.map (some T.b)), fun β w' hs => hs.get 0 rfl, at_.look, ?_⟩
    refine ⟨.string c.user, fun β w' hs => bkc (hs.get 2 rfl) rfl, ?_⟩
    refine ⟨[], [mapF S.m S.ml, sepF ((A ++ B).map tenF), mapF T.b (mdel T.m c.user), sepF ((U ++ V).map crdF), bkF S.b ty_cred_Store S.vs, bkF c.b ty_cred_Cred c.vs, sepF c.parts, namF], .c (.v (.tuple #[])), fun β w' ty hs => hs.mapDel g 2 rfl (t := ty_map_string_ptr_cred_Cred) (tk := ty_string) c.user ty #[false, false], trivial, ?_⟩
    refine ⟨subPerm [0, 4, 5], ?_⟩
    intro β w' hs
    have e1 : mdel T.m c.user = (U ++ V).map fun c : Crd => (c.user, ptr c.b) := by rw [at_.mdel, at_.user]
    have k := (hs.perm [4, 2, 3, 0, 1, 7]).recut [0, 1, 2, 3, 4] (Fs := [stoF { S with ts := A ++ { T with us := U ++ V } :: B }]) (sto_shutT (us := U ++ V) (last := S.last) at_.ten e1) rfl rfl ⟨rfl, rfl, rfl, rfl, rfl, trivial⟩ ⟨rfl, trivial⟩
    refine k.fin [0] ⟨{ S with ts := A ++ { T with us := U ++ V } :: B }, ?_, ?_, rfl, rfl⟩
    · unfold dropU; rw [at_.is]; rfl
    · unfold dropU
      rw [at_.is]
      show ASto.mk _ _ _ = ASto.mk _ _ _
      rw [at_.del]
      rfl
def dropT (X : ASto) (t : ByteArray) : Int × ASto := match aten X.ts t with
  | none => (6, X)
  | some _ => (0, { X with ts := atenD X.ts t })
theorem dropTenant_c (w : World) (S : Sto) (t : ByteArray) (hm : Mem w [stoF S]) : Con Tryd.prog n_cred_Store_DropTenant #[ptr S.b, .string t] w [stoF S] (stoOut S (dropT S.a t)) := by
  have g := good_cred_Store_DropTenant w (Un [stoF S])
  refine con_of_sx (cx := cx_cred_Store_DropTenant w (Un [stoF S])) g b_cred_Store_DropTenant rfl rfl (β := Va.z) [.c (.v (ptr S.b)), .c (.v (.string t))] 0 [] [stoF S] rfl rfl (hm.sat0 rfl (fun f hf ho k hk => ⟨f, hf, hk⟩)) ?_
  rcases look_ten t S.ts with ⟨A, T, B, eT, h0, h1, h2, h3, h4, h5, h6⟩ | ⟨h1, h2, h3⟩
  · refine call_pu (v := .map (some T.b)) (fun β w' hs => by
      have h := users_c w' S t (hs.get 0 rfl) (hs.getLt 0 rfl)
      rw [h0] at h
      exact h) ?_
    refine ⟨.map (some S.m), fun β w' hs => bkc (sto_bk (hs.get 0 rfl)) rfl, ?_⟩
    refine ⟨[], [stoF { S with ts := A ++ B }], .c (.v (.tuple #[])), fun β w' ty hs => ?_, trivial, ?_⟩
    · have k1 := hs.unsep 0 rfl
      obtain ⟨w2, k2, k3⟩ := k1.mapDel g 1 rfl (t := ty_map_string_map_string_ptr_cred_Cred) (tk := ty_string) t ty #[false, false]
      have k4 := k3.focus 2 (A := A.map tenF) (B := B.map tenF) (x := tenF T) (by show some (sepF (S.ts.map tenF)) = _; rw [eT, List.map_append, List.map_cons]) rfl
      have k5 := k4.sep [2, 3, 1]
      have e : stoF { S with ts := A ++ B } = sepF [bkF S.b ty_cred_Store S.vs, mapF S.m (mdel S.ml t), sepF (A.map tenF ++ B.map tenF)] := by
        unfold stoF Sto.ml
        rw [← h6]
        simp [Sto.vs]
      rw [e]
      exact ⟨w2, k2, k5.perm [0]⟩
    · intro β w' hs
      refine hs.fin [0] ⟨{ S with ts := A ++ B }, ?_, ?_, rfl, rfl⟩
      · unfold dropT; rw [show aten S.a.ts t = _ from h3]; rfl
      · unfold dropT
        rw [show aten S.a.ts t = _ from h3]
        show ASto.mk _ _ _ = ASto.mk _ _ _
        rw [h5]
        rfl
  · refine call_pu (v := .map none) (fun β w' hs => by
      have h := users_c w' S t (hs.get 0 rfl) (hs.getLt 0 rfl)
      rw [h3] at h
      exact h) ?_
    intro β w' hs
    refine hs.fin [0] (stoOut_same ?_)
    unfold dropT
    rw [show aten S.a.ts t = none from h2]

/-! ### who is revoked -/
def updU (X : ASto) (t u : ByteArray) (f : ACrd → ACrd) : ASto := { X with ts := atenU X.ts t (fun us => ausrU us (nameA u).1 fun c => { f c with gen := X.last + 1 }), last := X.last + 1 }
def revU (X : ASto) (t u : ByteArray) (b : Bool) : Int × ASto := match aone X t u with
  | none => (6, X)
  | some _ => if greatN ≤ X.last then (8, X) else (0, updU X t u fun c => { c with revoked := b })
/-- The store, shut behind a touch. -/
theorem sto_touched {c0 : Cx} {w : World} {S : Sto} {t u : ByteArray} {A B : List Ten} {T : Ten} {U V : List Crd} {c c' : Crd} (at_ : At S t u A T B U c V) (hb : c'.b = c.b) (hu : c'.user = c.user)
    (h0 : Sat c0 Va.z 0 [] [bkF S.b ty_cred_Store [.map (some S.m), .int .u64 ((S.last + 1 : Nat) : Int), .int .u64 S.reads], bkF c.b ty_cred_Cred c'.vs, sepF c'.parts, restF S.m S.ml (A ++ B) T.b T.m (U ++ V)] w) :
    Sat c0 Va.z 0 [] [stoF { S with ts := A ++ { T with us := U ++ c' :: V } :: B, last := S.last + 1 }] w :=
  sto_shut (S := S) (S' := { S with ts := A ++ { T with us := U ++ c' :: V } :: B, last := S.last + 1 }) at_.ten at_.crd hb hu rfl h0
theorem revoke_c (w : World) (S : Sto) (t u : ByteArray) (b : Bool) (hu : u.size ≤ 100000) (hm : Mem w [stoF S, namF]) : Con Tryd.prog n_cred_Store_Revoke #[ptr S.b, .string t, .string u, .bool b] w [stoF S] (stoOut S (revU S.a t u b)) := by
  have g := good_cred_Store_Revoke w (Un [stoF S])
  refine con_of_sx (cx := cx_cred_Store_Revoke w (Un [stoF S])) g b_cred_Store_Revoke rfl rfl (β := Va.z) [.c (.v (ptr S.b)), .c (.v (.string t)), .c (.v (.string u)), .c (.v (.bool b))] 0 [] [stoF S, namF] rfl rfl (hm.sat0 rfl (ownIn (Gs := [stoF S]) (fun f hf => by
    obtain rfl := List.mem_singleton.1 hf; rfl))) ?_
  cases hc : S.usr t u with
  | none =>
    refine call_pu (v := .pointer none) (fun β w' hs => by
      have h := get_c w' S t u (hs.get 0 rfl) (hs.getLt 0 rfl) hu (namF_T (hs.get 1 rfl))
      rw [hc] at h
      exact h) ?_
    intro β w' hs
    refine hs.fin [0] (stoOut_same ?_)
    unfold revU
    rw [usr_none hc]
  | some c =>
    obtain ⟨A, T, B, U, V, at_⟩ := usr_some hc
    refine call_pu (v := ptr c.b) (fun β w' hs => by
      have h := get_c w' S t u (hs.get 0 rfl) (hs.getLt 0 rfl) hu (namF_T (hs.get 1 rfl))
      rw [hc] at h
      exact h) ?_
    refine ⟨.int .u64 (S.last : Int), fun β w' hs => bkc (sto_bk (hs.get 0 rfl)) rfl, ?_⟩
    refine BIf.dec (fun hg => ?_) (fun hg => ?_)
    · have hg0 : (9007199254740992 : Int) ≤ (S.last : Int) := hg
      intro β w' hs
      refine hs.fin [0] (stoOut_same ?_)
      unfold revU
      rw [at_.is]
      exact if_pos (by unfold greatN; show _ ≤ S.last; omega)
    · have hg0 : ¬ (9007199254740992 : Int) ≤ (S.last : Int) := hg
      have hgl : S.last < greatN := by unfold greatN; omega
      refine ⟨[bkF S.b ty_cred_Store S.vs, bkF c.b ty_cred_Cred { c with revoked := b }.vs, sepF c.parts, restF S.m S.ml (A ++ B) T.b T.m (U ++ V), namF], fun β w' hs => ?_, ?_⟩
      · have k1 := hs.recut [0] (sto_open at_.ten at_.crd)
        exact k1.bkSet 1 (o := 9) (us := [.bool b]) rfl (Nat.le_refl 10) (fun u hu => by obtain rfl := List.mem_singleton.1 hu; rfl)
      refine call_con [0, 1] (fun β w' hs => touched_c w' S.b c.b S.last (.map (some S.m)) (.int .u64 S.reads) (Crd.vs { c with revoked := b }) rfl hgl (by have h := hs.mem.take (js := [0, 1]) rfl; exact h)) ?_
      rintro v Fs ⟨rfl, rfl⟩
      intro β w' hs
      have k := hs.recut [0, 1, 2, 3] (sto_touched (c' := { c with revoked := b, gen := S.last + 1 }) at_ rfl rfl)
      refine k.fin [0] ⟨{ S with ts := A ++ { T with us := U ++ { c with revoked := b, gen := S.last + 1 } :: V } :: B, last := S.last + 1 }, ?_, ?_, rfl, rfl⟩
      · unfold revU
        rw [at_.is]
        show _ = Value.int .i64 (if greatN ≤ S.last then (8, S.a) else (0, _)).1
        rw [if_neg (Nat.not_le.2 hgl)]
        rfl
      · unfold revU
        rw [at_.is]
        show _ = (if greatN ≤ S.last then (8, S.a) else (0, updU S.a t u fun c => { c with revoked := b })).2
        rw [if_neg (Nat.not_le.2 hgl)]
        show ASto.mk _ _ _ = ASto.mk _ _ _
        rw [at_.upd { c with revoked := b, gen := S.last + 1 } (fun c => { c with revoked := b, gen := S.last + 1 }) rfl rfl]
        rfl
end Go.Proofs.YthkjfepbmnabkaaDoor.Sx

/- Who there is: a role more, behind all others. -/
namespace Go.Proofs.YthkjfepbmnabkaaDoor.Sx
open Go
attribute [local irreducible] Calls

theorem isNaN_c (w : World) (x : ByteArray) : Pu Tryd.prog n_cmp_isNaN_string #[.string x] w (.bool false) := by
  have g := good_cmp_isNaN_string w (Un [])
  refine con_of_sx (cx := cx_cmp_isNaN_string w (Un [])) g b_cmp_isNaN_string rfl rfl (β := Va.z) [.c (.v (.string x))] 0 [] [] rfl rfl (Sat.start rfl) ?_
  intro β w' hs
  refine hs.fin [] ⟨?_, rfl⟩
  show Value.bool (!decide (x = x)) = _
  simp
theorem less_c (w : World) (x y : ByteArray) : Pu Tryd.prog n_cmp_Less_string #[.string x, .string y] w (.bool (Op.bytesLess x.toList y.toList)) := by
  have g := good_cmp_Less_string w (Un [])
  refine con_of_sx (cx := cx_cmp_Less_string w (Un [])) g b_cmp_Less_string rfl rfl (β := Va.z) [.c (.v (.string x)), .c (.v (.string y))] 0 [] [] rfl rfl (Sat.start rfl) ?_
  refine call_pu (fun β w' hs => isNaN_c w' x) ?_
  intro β w' hs
  exact hs.fin [] ⟨rfl, rfl⟩
/-- Behind all that are less. -/
theorem bsE_c (w : World) (A : Option Addr) (l : List ByteArray) (c : Nat) (x : ByteArray) (hr : Rd 1 A l.length (strs l) w) (hn : l.length ≤ 1000000) (hall : ∀ y ∈ l, Op.bytesLess y.toList x.toList = true) :
    Pu Tryd.prog n_slices_BinarySearch_string_string #[.slice A l.length c, .string x] w (.tuple #[.int .i64 (l.length : Int), .bool false]) := by
  have g := good_slices_BinarySearch_string_string w (Un [])
  refine con_of_sx (cx := cx_slices_BinarySearch_string_string w (Un [])) g b_slices_BinarySearch_string_string rfl rfl (β := Va.z) [.c (.v (.slice A l.length c)), .c (.v (.string x))] 0 [] [oldF w] rfl rfl (old_sat rfl) ?_
  refine loop_rule 0 (fun i : Nat => [(0, .c (.v (.slice A l.length c))), (1, .c (.v (.string x))), (6, .c (.v (.int .i64 l.length))), (7, .c (.v (.int .i64 (i : Int)))), (8, .c (.v (.int .i64 l.length)))]) (fun _ => []) (fun _ => [oldF w])
    (fun i => i ≤ l.length) (fun i => l.length - i) 0 (Nat.zero_le _) (Ent.same ⟨rfl, rfl, rfl, rfl, rfl, trivial⟩ rfl) g ?_
  intro i hi
  refine BIf.dec (fun hlt => ?_) (fun hge => ?_)
  · have hlt0 : (i : Int) < l.length := hlt
    have hil : i < l.length := by omega
    have hh : (i + l.length) / 2 < l.length := by omega
    obtain ⟨y, hy, hym⟩ := at_lt hh
    refine ⟨((i + l.length : Nat) : Int), by rw [wrap_i64 (by omega) (by omega)]; omega, ((i + l.length : Nat) : Int), by rw [wrap_u64']; omega, by decide, (((i + l.length) / 2 : Nat) : Int), ?_, (((i + l.length) / 2 : Nat) : Int), by rw [wrap_i64 (by omega) (by omega)], ?_⟩
    · show Int.fdiv ((i + l.length : Nat) : Int) (2 ^ (min (Int.toNat 1) 64)) = _
      rw [Int.fdiv_eq_ediv_of_nonneg _ (by decide)]
      have : (2 : Int) ^ (min (Int.toNat 1) 64) = 2 := by decide
      rw [this]
      omega
    obtain ⟨ad, hA, _⟩ := hr.2 (by omega)
    refine ⟨ad, (i + l.length) / 2, hA, rfl, hh, .string y, fun β w' hs => ?_, ?_⟩
    · have h := Rd.old hr (hs.get 0 rfl)
      rw [hA] at h
      exact Rd.cell1 h (by simp [strs, hy])
    refine call_pu (v := .bool true) (fun β w' hs => by
      have h := less_c w' y x
      rw [hall y hym] at h
      exact h) ?_
    refine ⟨(((i + l.length) / 2 + 1 : Nat) : Int), by rw [wrap_i64 (by omega) (by omega)]; rfl, ?_⟩
    exact ⟨(i + l.length) / 2 + 1, hh, by omega, Ent.same ⟨rfl, rfl, rfl, rfl, rfl, trivial⟩ rfl⟩
  · have hge0 : ¬ (i : Int) < l.length := hge
    obtain rfl : i = l.length := by omega
    conv => whnf
    generalize h1 : decide ((l.length : Int) < (l.length : Int)) = b1
    cases b1 with
    | true => exact absurd (of_decide_eq_true h1) (by omega)
    | false =>
      intro β w' hs
      exact hs.fin [] ⟨rfl, rfl⟩
/-- A text more, at the end. -/
theorem insE_c (w : World) (A B : Option Addr) (l : List ByteArray) (c cb : Nat) (x : ByteArray) (hn : l.length ≤ 1000000) (hlc : l.length ≤ c) (hm : Mem w [srowF A l c, rowF ty_string 1 (.slice B 1 cb) 1 [.string x]]) :
    Con Tryd.prog n_slices_Insert_string_string #[.slice A l.length c, .int .i64 l.length, .slice B 1 cb] w [srowF A l c, rowF ty_string 1 (.slice B 1 cb) 1 [.string x]] fun v Fs => ∃ A' c', v = .slice A' (l ++ [x]).length c' ∧ (l ++ [x]).length ≤ c' ∧ Fs = [srowF A' (l ++ [x]) c'] := by
  have g := good_slices_Insert_string_string w (Un [srowF A l c, rowF ty_string 1 (.slice B 1 cb) 1 [.string x]])
  refine con_of_sx (cx := cx_slices_Insert_string_string w (Un [srowF A l c, rowF ty_string 1 (.slice B 1 cb) 1 [.string x]])) g b_slices_Insert_string_string rfl rfl (β := Va.z) [.c (.v (.slice A l.length c)), .c (.v (.int .i64 l.length)), .c (.v (.slice B 1 cb))] 0 [] [srowF A l c, rowF ty_string 1 (.slice B 1 cb) 1 [.string x]] rfl rfl (hm.sat0 rfl (fun f hf ho k hk => ⟨f, hf, hk⟩)) ?_
  refine ⟨c, l.length, l.length, 0, c - l.length, _, rfl, rfl, rfl, Nat.le_refl c, hlc, Nat.le_refl _, Nat.sub_self _, rfl, rfl, ?_⟩
  refine BIf.dec (fun _ => ?_) (fun h => absurd rfl h)
  refine ⟨0, l.length, (l ++ [x]).length, strs l, [.string x], strs (l ++ [x]), rfl, fun β w' hs => row_rd (hs.get 1 rfl), fun u hu => by obtain rfl := List.mem_singleton.1 hu; rfl, by simp, by simp [strs], by rw [maxLen_eq, List.length_append]; simp only [List.length_singleton]; omega, by show (l ++ [x]).length * 16 ≤ _; rw [List.length_append]; simp only [List.length_singleton]; omega, ?_⟩
  intro A' c' h1 h2 h3 β w' hs
  exact hs.fin [0] ⟨A', c', rfl, h1, rfl⟩
def grantE (X : ASto) (t u role : ByteArray) : Int × ASto := match aone X t u with
  | none => (6, X)
  | some c => if plainF role.data.toList = false then (5, X) else if 8 ≤ c.roles.length then (8, X) else if greatN ≤ X.last then (8, X) else (0, updU X t u fun c => { c with roles := c.roles ++ [role] })
theorem grantE_c (w : World) (S : Sto) (t u role : ByteArray) (hu : u.size ≤ 100000) (hro : role.size ≤ 100000) (hz : ∀ a, aone S.a t u = some a → a.roles.length ≤ 1000 ∧ ∀ r ∈ a.roles, Op.bytesLess r.toList role.toList = true) (hm : Mem w [stoF S, namF]) :
    Con Tryd.prog n_cred_Store_Grant #[ptr S.b, .string t, .string u, .string role] w [stoF S] (stoOut S (grantE S.a t u role)) := by
  have g := good_cred_Store_Grant w (Un [stoF S])
  refine con_of_sx (cx := cx_cred_Store_Grant w (Un [stoF S])) g b_cred_Store_Grant rfl rfl (β := Va.z) [.c (.v (ptr S.b)), .c (.v (.string t)), .c (.v (.string u)), .c (.v (.string role))] 0 [] [stoF S, namF] rfl rfl (hm.sat0 rfl (ownIn (Gs := [stoF S]) (fun f hf => by
    obtain rfl := List.mem_singleton.1 hf; rfl))) ?_
  cases hc : S.usr t u with
  | none =>
    refine call_pu (v := .pointer none) (fun β w' hs => by
      have h := get_c w' S t u (hs.get 0 rfl) (hs.getLt 0 rfl) hu (namF_T (hs.get 1 rfl))
      rw [hc] at h
      exact h) ?_
    intro β w' hs
    refine hs.fin [0] (stoOut_same ?_)
    unfold grantE
    rw [usr_none hc]
  | some c =>
    obtain ⟨A, T, B, U, V, at_⟩ := usr_some hc
    obtain ⟨hrl, hall⟩ := hz _ at_.is
    have hrl' : c.roles.length ≤ 1000 := hrl
    refine call_pu (v := ptr c.b) (fun β w' hs => by
      have h := get_c w' S t u (hs.get 0 rfl) (hs.getLt 0 rfl) hu (namF_T (hs.get 1 rfl))
      rw [hc] at h
      exact h) ?_
    have hgr : grantE S.a t u role = if plainF role.data.toList = false then (5, S.a) else if 8 ≤ c.roles.length then (8, S.a) else if greatN ≤ S.last then (8, S.a) else (0, updU S.a t u fun c => { c with roles := c.roles ++ [role] }) := by
      unfold grantE
      rw [at_.is]
      rfl
    refine call_pu (fun β w' hs => plain_c w' role hro) ?_
    generalize hp : plainF role.data.toList = bp at hgr
    cases bp with
    | false =>
      rw [if_pos rfl] at hgr
      intro β w' hs
      exact hs.fin [0] (stoOut_same hgr)
    | true =>
    rw [if_neg (by decide)] at hgr
    have hcell : ∀ {β : Va} {n : Nat} {H : List Bk} {F : List Fact} {w' : World}, Sat (cx_cred_Store_Grant w (Un [stoF S])) β n H F w' → ∀ j, nth F j = some (stoF S) → w'.cell? ⟨c.b, 8, none⟩ = some (.slice c.rA c.roles.length c.rc) := fun hs j hj => bkc (crd_bk (at_.crdP (hs.get j hj))) rfl
    refine ⟨.slice c.rA c.roles.length c.rc, fun β w' hs => hcell hs 0 rfl, ?_⟩
    refine call_pu (fun β w' hs => bsE_c w' c.rA c.roles c.rc role (crd_strs (at_.crdP (hs.get 0 rfl))) (by omega) hall) ?_
    refine ⟨.slice c.rA c.roles.length c.rc, fun β w' hs => hcell hs 0 rfl, ?_⟩
    refine BIf.dec (fun hf => ?_) (fun hf => ?_)
    · have hf0 : (8 : Int) ≤ (c.roles.length : Int) := hf
      rw [if_pos (by omega)] at hgr
      intro β w' hs
      exact hs.fin [0] (stoOut_same hgr)
    have hf0 : ¬ (8 : Int) ≤ (c.roles.length : Int) := hf
    rw [if_neg (by omega)] at hgr
    refine ⟨.int .u64 (S.last : Int), fun β w' hs => bkc (sto_bk (hs.get 0 rfl)) rfl, ?_⟩
    refine BIf.dec (fun hg => ?_) (fun hg => ?_)
    · have hg0 : (9007199254740992 : Int) ≤ (S.last : Int) := hg
      rw [if_pos (by unfold greatN; omega)] at hgr
      intro β w' hs
      exact hs.fin [0] (stoOut_same hgr)
    have hg0 : ¬ (9007199254740992 : Int) ≤ (S.last : Int) := hg
    have hgl : S.last < greatN := by unfold greatN; omega
    rw [if_neg (Nat.not_le.2 hgl)] at hgr
    refine ⟨.slice c.rA c.roles.length c.rc, fun β w' hs => hcell hs 0 rfl, ?_⟩
    refine call_con [] (fun β w' hs => cloneS_c w' c.rA c.roles c.rc (crd_strs (at_.crdP (hs.get 0 rfl))) (by omega)) ?_
    rintro v Fs ⟨A1, c1, rfl, hc1, _, rfl⟩
    intro b1
    refine call_con [1, 0] (fun β w' hs => insE_c w' A1 (some ⟨b1, 0, none⟩) c.roles c1 1 role (by omega) hc1 (hs.mem.take (js := [1, 0]) rfl)) ?_
    rintro v Fs ⟨A2, c2, rfl, hc2, rfl⟩
    obtain ⟨cr, hcr⟩ : ∃ cr : Crd, cr = { c with rA := A2, rc := c2, roles := c.roles ++ [role] } := ⟨_, rfl⟩
    have hvs : putAll c.vs 8 [.slice A2 (c.roles ++ [role]).length c2] = cr.vs := by rw [hcr]; rfl
    refine ⟨[bkF S.b ty_cred_Store S.vs, bkF c.b ty_cred_Cred cr.vs, sepF c.parts, restF S.m S.ml (A ++ B) T.b T.m (U ++ V), srowF A2 (c.roles ++ [role]) c2, namF], fun β w' hs => ?_, ?_⟩
    · have k1 := hs.recut [1] (sto_open at_.ten at_.crd)
      have k2 := k1.bkSet 1 (o := 8) (us := [.slice A2 (c.roles ++ [role]).length c2]) rfl (show 8 + 1 ≤ 10 by decide) (fun u hu => by obtain rfl := List.mem_singleton.1 hu; rfl)
      rw [hvs] at k2
      exact k2
    refine call_con [0, 1] (fun β w' hs => touched_c w' S.b c.b S.last (.map (some S.m)) (.int .u64 S.reads) cr.vs rfl hgl (by have h := hs.mem.take (js := [0, 1]) rfl; exact h)) ?_
    rintro v Fs ⟨rfl, rfl⟩
    intro β w' hs
    have k1 := hs.unsep 2 rfl
    have k2 := k1.strsRow 8 rfl
    have k3 := k2.sep [8, 1, 2, 3, 4] rfl ⟨rfl, rfl, rfl, rfl, rfl, trivial⟩
    have k4 := k3.perm [2, 3, 0, 4, 5]
    have k := k4.recut [0, 1, 2, 3] (Fs := [stoF { S with ts := A ++ { T with us := U ++ { cr with gen := S.last + 1 } :: V } :: B, last := S.last + 1 }]) (fun h => sto_touched (c' := { cr with gen := S.last + 1 }) at_ (by rw [hcr]) (by rw [hcr]) (by rw [hcr] at h ⊢; exact h)) rfl rfl ⟨rfl, rfl, rfl, rfl, trivial⟩ ⟨rfl, trivial⟩
    refine k.fin [0] ⟨{ S with ts := A ++ { T with us := U ++ { cr with gen := S.last + 1 } :: V } :: B, last := S.last + 1 }, ?_, ?_, rfl, rfl⟩
    · rw [hgr]; rfl
    · rw [hgr]
      show ASto.mk _ _ _ = ASto.mk _ _ _
      rw [at_.upd { cr with gen := S.last + 1 } (fun c => { c with roles := c.roles ++ [role], gen := S.last + 1 }) (by rw [hcr]) (by rw [hcr]; rfl)]
      rfl
end Go.Proofs.YthkjfepbmnabkaaDoor.Sx

/- Who there is: a secret of noughts; the example. -/
namespace Go.Proofs.YthkjfepbmnabkaaDoor.Sx
open Go
attribute [local irreducible] Calls

def zeros32 : List UInt8 := List.replicate 32 0
def plainS : ASec := ⟨[1], 1, zeros32, zeros32, zeros32⟩
def plainX (b0 b1 b2 b3 : Nat) : SecV := ⟨some ⟨b0, 0, none⟩, 1, 1, 1, some ⟨b1, 0, none⟩, 32, 32, some ⟨b2, 0, none⟩, 32, 32, some ⟨b3, 0, none⟩, 32, 32⟩
noncomputable def rowZ (b : Nat) : Fact := rowF ty_uint8 1 (.slice (some ⟨b, 0, none⟩) 32 32) 32 (repl ti5.zero 32)
def row1 (b : Nat) : Fact := rowF ty_uint8 1 (.slice (some ⟨b, 0, none⟩) 1 1) 1 [.int .u8 1]
set_option maxRecDepth 100000 in
set_option maxHeartbeats 4000000 in
theorem plain14_c (w : World) : Con Tryd.prog n_ostiarylaw14_plain #[] w [] fun v Fs => ∃ b0 b1 b2 b3, v = .agg (plainX b0 b1 b2 b3).vs.toArray ∧ Fs = [rowZ b3, rowZ b2, rowZ b1, row1 b0] := by
  have g := good_ostiarylaw14_plain w (Un [])
  refine con_of_sx (cx := cx_ostiarylaw14_plain w (Un [])) g b_ostiarylaw14_plain rfl rfl (β := Va.z) [] 0 [] [] rfl rfl (Sat.start rfl) ?_
  have hS : ∀ {n : Nat} {H : List Bk} {F : List Fact}, Sub (cx_ostiarylaw14_plain w (Un [])) n H F [] [] := fun {n H F} => Sub.of (List.nil_sublist _) (List.nil_sublist _)
  refine draw_rule g p_ostiarylaw14_plain_1 (by kernel_rfl) [] [] hS ?_
  exact ⟨fun b0 => ⟨hS, ⟨⟨32, 32, rfl, rfl, Nat.le_refl _, by decide, by decide, fun b1 => ⟨hS, ⟨⟨32, 32, rfl, rfl, Nat.le_refl _, by decide, by decide, fun b2 => ⟨hS, ⟨32, 32, rfl, rfl, Nat.le_refl _, by decide, by decide, fun b3 => ⟨hS, ⟨hS, fun β w' hs => (hs.keepB (List.nil_sublist _)).fin [0, 1, 2, 3] ⟨b0, b1, b2, b3, rfl, rfl⟩ rfl rfl rfl ⟨rfl, rfl, rfl, rfl, trivial⟩⟩⟩⟩⟩⟩, ⟨32, 32, rfl, rfl, Nat.le_refl _, by decide, by decide, fun b3 => ⟨hS, ⟨32, 32, rfl, rfl, Nat.le_refl _, by decide, by decide, fun b2 => ⟨hS, ⟨hS, fun β w' hs => (hs.keepB (List.nil_sublist _)).fin [1, 0, 2, 3] ⟨b0, b1, b2, b3, rfl, rfl⟩ rfl rfl rfl ⟨rfl, rfl, rfl, rfl, trivial⟩⟩⟩⟩⟩⟩⟩⟩⟩, ⟨⟨32, 32, rfl, rfl, Nat.le_refl _, by decide, by decide, fun b2 => ⟨hS, ⟨⟨32, 32, rfl, rfl, Nat.le_refl _, by decide, by decide, fun b1 => ⟨hS, ⟨32, 32, rfl, rfl, Nat.le_refl _, by decide, by decide, fun b3 => ⟨hS, ⟨hS, fun β w' hs => (hs.keepB (List.nil_sublist _)).fin [0, 2, 1, 3] ⟨b0, b1, b2, b3, rfl, rfl⟩ rfl rfl rfl ⟨rfl, rfl, rfl, rfl, trivial⟩⟩⟩⟩⟩⟩, ⟨32, 32, rfl, rfl, Nat.le_refl _, by decide, by decide, fun b3 => ⟨hS, ⟨32, 32, rfl, rfl, Nat.le_refl _, by decide, by decide, fun b1 => ⟨hS, ⟨hS, fun β w' hs => (hs.keepB (List.nil_sublist _)).fin [1, 2, 0, 3] ⟨b0, b1, b2, b3, rfl, rfl⟩ rfl rfl rfl ⟨rfl, rfl, rfl, rfl, trivial⟩⟩⟩⟩⟩⟩⟩⟩⟩, ⟨32, 32, rfl, rfl, Nat.le_refl _, by decide, by decide, fun b3 => ⟨hS, ⟨⟨32, 32, rfl, rfl, Nat.le_refl _, by decide, by decide, fun b1 => ⟨hS, ⟨32, 32, rfl, rfl, Nat.le_refl _, by decide, by decide, fun b2 => ⟨hS, ⟨hS, fun β w' hs => (hs.keepB (List.nil_sublist _)).fin [2, 0, 1, 3] ⟨b0, b1, b2, b3, rfl, rfl⟩ rfl rfl rfl ⟨rfl, rfl, rfl, rfl, trivial⟩⟩⟩⟩⟩⟩, ⟨32, 32, rfl, rfl, Nat.le_refl _, by decide, by decide, fun b2 => ⟨hS, ⟨32, 32, rfl, rfl, Nat.le_refl _, by decide, by decide, fun b1 => ⟨hS, ⟨hS, fun β w' hs => (hs.keepB (List.nil_sublist _)).fin [2, 1, 0, 3] ⟨b0, b1, b2, b3, rfl, rfl⟩ rfl rfl rfl ⟨rfl, rfl, rfl, rfl, trivial⟩⟩⟩⟩⟩⟩⟩⟩⟩⟩⟩⟩, ⟨⟨32, 32, rfl, rfl, Nat.le_refl _, by decide, by decide, fun b1 => ⟨hS, ⟨fun b0 => ⟨hS, ⟨⟨32, 32, rfl, rfl, Nat.le_refl _, by decide, by decide, fun b2 => ⟨hS, ⟨32, 32, rfl, rfl, Nat.le_refl _, by decide, by decide, fun b3 => ⟨hS, ⟨hS, fun β w' hs => (hs.keepB (List.nil_sublist _)).fin [0, 1, 3, 2] ⟨b0, b1, b2, b3, rfl, rfl⟩ rfl rfl rfl ⟨rfl, rfl, rfl, rfl, trivial⟩⟩⟩⟩⟩⟩, ⟨32, 32, rfl, rfl, Nat.le_refl _, by decide, by decide, fun b3 => ⟨hS, ⟨32, 32, rfl, rfl, Nat.le_refl _, by decide, by decide, fun b2 => ⟨hS, ⟨hS, fun β w' hs => (hs.keepB (List.nil_sublist _)).fin [1, 0, 3, 2] ⟨b0, b1, b2, b3, rfl, rfl⟩ rfl rfl rfl ⟨rfl, rfl, rfl, rfl, trivial⟩⟩⟩⟩⟩⟩⟩⟩, ⟨⟨32, 32, rfl, rfl, Nat.le_refl _, by decide, by decide, fun b2 => ⟨hS, ⟨fun b0 => ⟨hS, ⟨32, 32, rfl, rfl, Nat.le_refl _, by decide, by decide, fun b3 => ⟨hS, ⟨hS, fun β w' hs => (hs.keepB (List.nil_sublist _)).fin [0, 2, 3, 1] ⟨b0, b1, b2, b3, rfl, rfl⟩ rfl rfl rfl ⟨rfl, rfl, rfl, rfl, trivial⟩⟩⟩⟩⟩, ⟨32, 32, rfl, rfl, Nat.le_refl _, by decide, by decide, fun b3 => ⟨hS, fun b0 => ⟨hS, ⟨hS, fun β w' hs => (hs.keepB (List.nil_sublist _)).fin [1, 2, 3, 0] ⟨b0, b1, b2, b3, rfl, rfl⟩ rfl rfl rfl ⟨rfl, rfl, rfl, rfl, trivial⟩⟩⟩⟩⟩⟩⟩⟩, ⟨32, 32, rfl, rfl, Nat.le_refl _, by decide, by decide, fun b3 => ⟨hS, ⟨fun b0 => ⟨hS, ⟨32, 32, rfl, rfl, Nat.le_refl _, by decide, by decide, fun b2 => ⟨hS, ⟨hS, fun β w' hs => (hs.keepB (List.nil_sublist _)).fin [2, 0, 3, 1] ⟨b0, b1, b2, b3, rfl, rfl⟩ rfl rfl rfl ⟨rfl, rfl, rfl, rfl, trivial⟩⟩⟩⟩⟩, ⟨32, 32, rfl, rfl, Nat.le_refl _, by decide, by decide, fun b2 => ⟨hS, fun b0 => ⟨hS, ⟨hS, fun β w' hs => (hs.keepB (List.nil_sublist _)).fin [2, 1, 3, 0] ⟨b0, b1, b2, b3, rfl, rfl⟩ rfl rfl rfl ⟨rfl, rfl, rfl, rfl, trivial⟩⟩⟩⟩⟩⟩⟩⟩⟩⟩⟩⟩, ⟨⟨32, 32, rfl, rfl, Nat.le_refl _, by decide, by decide, fun b2 => ⟨hS, ⟨fun b0 => ⟨hS, ⟨⟨32, 32, rfl, rfl, Nat.le_refl _, by decide, by decide, fun b1 => ⟨hS, ⟨32, 32, rfl, rfl, Nat.le_refl _, by decide, by decide, fun b3 => ⟨hS, ⟨hS, fun β w' hs => (hs.keepB (List.nil_sublist _)).fin [0, 3, 1, 2] ⟨b0, b1, b2, b3, rfl, rfl⟩ rfl rfl rfl ⟨rfl, rfl, rfl, rfl, trivial⟩⟩⟩⟩⟩⟩, ⟨32, 32, rfl, rfl, Nat.le_refl _, by decide, by decide, fun b3 => ⟨hS, ⟨32, 32, rfl, rfl, Nat.le_refl _, by decide, by decide, fun b1 => ⟨hS, ⟨hS, fun β w' hs => (hs.keepB (List.nil_sublist _)).fin [1, 3, 0, 2] ⟨b0, b1, b2, b3, rfl, rfl⟩ rfl rfl rfl ⟨rfl, rfl, rfl, rfl, trivial⟩⟩⟩⟩⟩⟩⟩⟩, ⟨⟨32, 32, rfl, rfl, Nat.le_refl _, by decide, by decide, fun b1 => ⟨hS, ⟨fun b0 => ⟨hS, ⟨32, 32, rfl, rfl, Nat.le_refl _, by decide, by decide, fun b3 => ⟨hS, ⟨hS, fun β w' hs => (hs.keepB (List.nil_sublist _)).fin [0, 3, 2, 1] ⟨b0, b1, b2, b3, rfl, rfl⟩ rfl rfl rfl ⟨rfl, rfl, rfl, rfl, trivial⟩⟩⟩⟩⟩, ⟨32, 32, rfl, rfl, Nat.le_refl _, by decide, by decide, fun b3 => ⟨hS, fun b0 => ⟨hS, ⟨hS, fun β w' hs => (hs.keepB (List.nil_sublist _)).fin [1, 3, 2, 0] ⟨b0, b1, b2, b3, rfl, rfl⟩ rfl rfl rfl ⟨rfl, rfl, rfl, rfl, trivial⟩⟩⟩⟩⟩⟩⟩⟩, ⟨32, 32, rfl, rfl, Nat.le_refl _, by decide, by decide, fun b3 => ⟨hS, ⟨fun b0 => ⟨hS, ⟨32, 32, rfl, rfl, Nat.le_refl _, by decide, by decide, fun b1 => ⟨hS, ⟨hS, fun β w' hs => (hs.keepB (List.nil_sublist _)).fin [2, 3, 0, 1] ⟨b0, b1, b2, b3, rfl, rfl⟩ rfl rfl rfl ⟨rfl, rfl, rfl, rfl, trivial⟩⟩⟩⟩⟩, ⟨32, 32, rfl, rfl, Nat.le_refl _, by decide, by decide, fun b1 => ⟨hS, fun b0 => ⟨hS, ⟨hS, fun β w' hs => (hs.keepB (List.nil_sublist _)).fin [2, 3, 1, 0] ⟨b0, b1, b2, b3, rfl, rfl⟩ rfl rfl rfl ⟨rfl, rfl, rfl, rfl, trivial⟩⟩⟩⟩⟩⟩⟩⟩⟩⟩⟩⟩, ⟨32, 32, rfl, rfl, Nat.le_refl _, by decide, by decide, fun b3 => ⟨hS, ⟨fun b0 => ⟨hS, ⟨⟨32, 32, rfl, rfl, Nat.le_refl _, by decide, by decide, fun b1 => ⟨hS, ⟨32, 32, rfl, rfl, Nat.le_refl _, by decide, by decide, fun b2 => ⟨hS, ⟨hS, fun β w' hs => (hs.keepB (List.nil_sublist _)).fin [3, 0, 1, 2] ⟨b0, b1, b2, b3, rfl, rfl⟩ rfl rfl rfl ⟨rfl, rfl, rfl, rfl, trivial⟩⟩⟩⟩⟩⟩, ⟨32, 32, rfl, rfl, Nat.le_refl _, by decide, by decide, fun b2 => ⟨hS, ⟨32, 32, rfl, rfl, Nat.le_refl _, by decide, by decide, fun b1 => ⟨hS, ⟨hS, fun β w' hs => (hs.keepB (List.nil_sublist _)).fin [3, 1, 0, 2] ⟨b0, b1, b2, b3, rfl, rfl⟩ rfl rfl rfl ⟨rfl, rfl, rfl, rfl, trivial⟩⟩⟩⟩⟩⟩⟩⟩, ⟨⟨32, 32, rfl, rfl, Nat.le_refl _, by decide, by decide, fun b1 => ⟨hS, ⟨fun b0 => ⟨hS, ⟨32, 32, rfl, rfl, Nat.le_refl _, by decide, by decide, fun b2 => ⟨hS, ⟨hS, fun β w' hs => (hs.keepB (List.nil_sublist _)).fin [3, 0, 2, 1] ⟨b0, b1, b2, b3, rfl, rfl⟩ rfl rfl rfl ⟨rfl, rfl, rfl, rfl, trivial⟩⟩⟩⟩⟩, ⟨32, 32, rfl, rfl, Nat.le_refl _, by decide, by decide, fun b2 => ⟨hS, fun b0 => ⟨hS, ⟨hS, fun β w' hs => (hs.keepB (List.nil_sublist _)).fin [3, 1, 2, 0] ⟨b0, b1, b2, b3, rfl, rfl⟩ rfl rfl rfl ⟨rfl, rfl, rfl, rfl, trivial⟩⟩⟩⟩⟩⟩⟩⟩, ⟨32, 32, rfl, rfl, Nat.le_refl _, by decide, by decide, fun b2 => ⟨hS, ⟨fun b0 => ⟨hS, ⟨32, 32, rfl, rfl, Nat.le_refl _, by decide, by decide, fun b1 => ⟨hS, ⟨hS, fun β w' hs => (hs.keepB (List.nil_sublist _)).fin [3, 2, 0, 1] ⟨b0, b1, b2, b3, rfl, rfl⟩ rfl rfl rfl ⟨rfl, rfl, rfl, rfl, trivial⟩⟩⟩⟩⟩, ⟨32, 32, rfl, rfl, Nat.le_refl _, by decide, by decide, fun b1 => ⟨hS, fun b0 => ⟨hS, ⟨hS, fun β w' hs => (hs.keepB (List.nil_sublist _)).fin [3, 2, 1, 0] ⟨b0, b1, b2, b3, rfl, rfl⟩ rfl rfl rfl ⟨rfl, rfl, rfl, rfl, trivial⟩⟩⟩⟩⟩⟩⟩⟩⟩⟩⟩⟩⟩⟩⟩
end Go.Proofs.YthkjfepbmnabkaaDoor.Sx

/- Who there is: the document's example. -/
namespace Go.Proofs.YthkjfepbmnabkaaDoor.Sx
open Go
attribute [local irreducible] Calls

theorem stoOut_eq {S : Sto} {r : Int × ASto} {v : Value} {Fs : List Fact} {e : Int} {X : ASto} (h : stoOut S r v Fs) (hr : r = (e, X)) : ∃ S', v = .int .i64 e ∧ S'.a = X ∧ S'.b = S.b ∧ Fs = [stoF S'] := by
  subst hr; exact h
def tT : ByteArray := ⟨#[116]⟩
def annT : ByteArray := ⟨#[97, 110, 110]⟩
def devT : ByteArray := ⟨#[100, 101, 118]⟩
def X0 : ASto := ⟨[], 0, 0⟩
def X1 : ASto := ⟨[(tT, [])], 0, 0⟩
def annC (gen : Nat) (roles : List ByteArray) (r : Bool) : ACrd := ⟨tT, annT, plainS, gen, roles, r⟩
def X2 (gen : Nat) (roles : List ByteArray) (r : Bool) (reads : Int) : ASto := ⟨[(tT, [annC gen roles r])], gen, reads⟩
theorem name_ann : nameA annT = (annT, 0) := by decide +kernel
theorem e1 : addT X0 tT = (0, X1) := by rfl
theorem e2 : addU X1 tT annT plainS = (0, X2 1 [] false 0) := by
  unfold addU
  rw [name_ann]
  rfl
theorem aone_X2 (gen : Nat) (roles : List ByteArray) (r : Bool) (reads : Int) : aone (X2 gen roles r reads) tT annT = some (annC gen roles r) := by
  unfold aone
  rw [name_ann]
  rfl
theorem e3 : grantE (X2 1 [] false 0) tT annT devT = (0, X2 2 [devT] false 0) := by
  unfold grantE
  rw [aone_X2]
  unfold updU
  rw [name_ann]
  rfl
theorem e4 : revU (X2 2 [devT] false 1) tT annT true = (0, X2 3 [devT] true 1) := by
  unfold revU
  rw [aone_X2]
  unfold updU
  rw [name_ann]
  rfl
theorem plainSz : ASz plainS := ⟨by decide, by decide, by decide, by decide⟩
/-- The secret of noughts, to be read. -/
theorem Sat.plainF {cx : Cx} {β : Va} {n : Nat} {H : List Bk} {w : World} {F : List Fact} {b0 b1 b2 b3 : Nat} (h : Sat cx β n H F w) (js : List Nat) (hj : takeIx F js = [rowZ b3, rowZ b2, rowZ b1, row1 b0]) (hn : nodupB js = true := by rfl) : Sat cx β n H (secF (plainX b0 b1 b2 b3) plainS :: dropIx js 0 F) w := by
  refine h.fuse js (secF (plainX b0 b1 b2 b3) plainS) (fun w hm => ?_) (fun k hk => ?_) hn (by rw [hj]; exact ⟨rfl, rfl, rfl, rfl, trivial⟩)
  · rw [hj] at hm
    exact ⟨rfl, rfl, rfl, rfl, rfl, row_rd (hm.fact (row1 b0) (by simp)), row_rd (hm.fact (rowZ b1) (by simp)), row_rd (hm.fact (rowZ b2) (by simp)), row_rd (hm.fact (rowZ b3) (by simp))⟩
  · rw [hj]
    obtain ⟨f, hf, hk⟩ := hk
    simp only [List.mem_cons, List.not_mem_nil, or_false] at hf
    rcases hf with rfl | rfl | rfl | rfl
    all_goals
      obtain ⟨_, ad, q, rfl⟩ := hk
      obtain rfl := Option.some.inj q
    · exact ⟨row1 b0, by simp, rfl⟩
    · exact ⟨rowZ b1, by simp, rfl⟩
    · exact ⟨rowZ b2, by simp, rfl⟩
    · exact ⟨rowZ b3, by simp, rfl⟩
def curA (X : ASto) (t u : ByteArray) (n : Int) : Bool := match aone X t u with
  | some a => !a.revoked && decide ((a.gen : Int) = n)
  | none => false
theorem current_a (w : World) (S : Sto) (t u : ByteArray) (n : Int) (h : (stoF S).p w) (hl : ∀ k, (stoF S).D k → k < w.heap.size) (hu : u.size ≤ 100000) (hn : NamT w) :
    Pu Tryd.prog n_cred_Store_Current #[ptr S.b, .string t, .string u, .int .u64 n] w (.bool (curA S.a t u n)) := by
  have h1 := current_c w S t u n h hl hu hn
  have e : curA S.a t u n = (match S.usr t u with | some c => !c.revoked && decide ((c.gen : Int) = n) | none => false) := by
    unfold curA
    cases hc : S.usr t u with
    | none => rw [usr_none hc]
    | some c =>
      obtain ⟨A, T, B, U, V, at_⟩ := usr_some hc
      rw [at_.is]
      rfl
  rw [e]
  exact h1
theorem stoR_a {S : Sto} {gen : Nat} {roles : List ByteArray} {r : Bool} (h : S.a = X2 gen roles r 0) : (stoR S).a = X2 gen roles r 1 := by
  show ASto.mk S.a.ts S.a.last (IntKind.u64.wrap (S.a.reads + 1)) = _
  rw [h]
  rfl
theorem cur_X2 (gen : Nat) (roles : List ByteArray) (r : Bool) (reads n : Int) : curA (X2 gen roles r reads) tT annT n = (!r && decide ((gen : Int) = n)) := by
  unfold curA
  rw [aone_X2]
  rfl
set_option maxHeartbeats 2000000 in
theorem awake14_c (w : World) (hm : Mem w [namF]) : Pu Tryd.prog n_ostiarylaw14_awake #[] w (.bool true) := by
  have g := good_ostiarylaw14_awake w (Un [])
  refine con_of_sx (cx := cx_ostiarylaw14_awake w (Un [])) g b_ostiarylaw14_awake rfl rfl (β := Va.z) [] 0 [] [namF] rfl rfl (hm.sat0 rfl (ownIn (Gs := []) (fun f hf => by
    obtain rfl := List.mem_singleton.1 hf; rfl))) ?_
  refine call_con [] (fun β w' hs => cnew_c w') ?_
  rintro v Fs ⟨b, m, rfl, rfl⟩
  refine call_con [0] (fun β w' hs => addTenant_c w' (sto0 b m) tT (by decide) (hs.mem.take (js := [0]) rfl)) ?_
  intro v Fs h
  obtain ⟨S1, rfl, a1, b1, rfl⟩ := stoOut_eq h e1
  replace b1 : S1.b = b := b1
  refine call_con [] (fun β w' hs => plain14_c w') ?_
  rintro v Fs ⟨c0, c1, c2, c3, rfl, rfl⟩
  refine call_conS [4] (R := stoOut S1 (0, X2 1 [] false 0)) (fun β w' hs => by
    have k := (hs.plainF [0, 1, 2, 3] rfl).perm [1, 0, 2]
    have h := add_c w' S1 tT annT (plainX c0 c1 c2 c3) plainS (by decide) plainSz k.mem
    rw [b1, a1, e2] at h
    exact h) ?_
  rintro v Fs ⟨S2, rfl, a2, b2, rfl⟩
  refine ⟨[], [stoF S2, namF], fun β w' hs => hs.perm [0, 5], ?_⟩
  replace b2 : S2.b = b := b2.trans b1
  replace a2 : S2.a = X2 1 [] false 0 := a2
  refine call_con [0] (R := stoOut S2 (0, X2 2 [devT] false 0)) (fun β w' hs => by
    have h := grantE_c w' S2 tT annT devT (by decide) (by decide) (fun a ha => by
      rw [a2, aone_X2] at ha
      obtain rfl := Option.some.inj ha
      exact ⟨by decide, fun r hr => by cases hr⟩) hs.mem
    rw [b2, a2, e3] at h
    exact h) ?_
  rintro v Fs ⟨S3, rfl, a3, b3, rfl⟩
  replace b3 : S3.b = b := b3.trans b2
  replace a3 : S3.a = X2 2 [devT] false 0 := a3
  refine call_con [0] (R := findOut S3 tT annT) (fun β w' hs => by
    have h := find_c w' S3 tT annT (by decide) (fun a ha => by
      rw [a3, aone_X2] at ha
      obtain rfl := Option.some.inj ha
      exact ⟨plainSz, by decide⟩) hs.mem
    rw [b3] at h
    exact h) ?_
  intro v Fs h
  unfold findOut at h
  rw [a3, aone_X2] at h
  obtain ⟨c, hc, rfl, rfl⟩ := h
  have a5 := stoR_a a3
  have b5 : (stoR S3).b = b := b3
  obtain ⟨cb, ct, cu, csec, cg, cA, cc, cr, cv⟩ := c
  simp only [Crd.a, annC, ACrd.mk.injEq] at hc
  obtain ⟨rfl, rfl, hsec, rfl, rfl, rfl⟩ := hc
  refine call_pu (v := .bool true) (fun β w' hs => by
    have h := current_a w' (stoR S3) tT annT 2 (hs.get 5 rfl) (hs.getLt 5 rfl) (by decide) (namF_T (hs.get 6 rfl))
    rw [a5, b5, cur_X2] at h
    exact h) ?_
  refine call_con [5] (R := stoOut (stoR S3) (0, X2 3 [devT] true 1)) (fun β w' hs => by
    have h := revoke_c w' (stoR S3) tT annT true (by decide) (hs.mem.take (js := [5, 6]) rfl)
    rw [b5, a5, e4] at h
    exact h) ?_
  rintro v Fs ⟨S4, rfl, a4, b4, rfl⟩
  replace b4 : S4.b = b := b4.trans b5
  replace a4 : S4.a = X2 3 [devT] true 1 := a4
  refine call_pu (v := .int .u64 3) (fun β w' hs => by
    have h := last_c w' S4 (hs.get 0 rfl) (hs.getLt 0 rfl)
    rw [b4, show S4.last = 3 from congrArg ASto.last a4] at h
    exact h) ?_
  refine call_pu (v := .bool false) (fun β w' hs => by
    have h := current_a w' S4 tT annT 3 (hs.get 0 rfl) (hs.getLt 0 rfl) (by decide) (namF_T (hs.get 6 rfl))
    rw [a4, b4, cur_X2] at h
    exact h) ?_
  intro β w' hs
  exact (hs.keepB (List.nil_sublist _)).fin [] ⟨rfl, rfl⟩
end Go.Proofs.YthkjfepbmnabkaaDoor.Sx

/- CredForms: a user is found by any form of his name that is prepared alike. -/
namespace Go.Proofs.YthkjfepbmnabkaaDoor.Sx
open Go
attribute [local irreducible] Calls

theorem sizF_code (l : List UInt8) (k : Nat) : (sizF l k).2 = 0 ∨ (sizF l k).2 = 2 ∨ (sizF l k).2 = 3 ∨ (sizF l k).2 = 4 ∨ (sizF l k).2 = 5 := by
  unfold sizF
  split
  · split
    · exact .inr (.inl rfl)
    · split
      · exact .inr (.inr (.inl rfl))
      · exact .inl rfl
  · rename_i h
    unfold prepF at h ⊢
    split
    · split
      · exact .inr (.inr (.inr (.inr rfl)))
      · rename_i h1 h2
        rw [if_pos h1, if_neg h2] at h
        exact absurd rfl h
    · exact .inr (.inr (.inr (.inl rfl)))
def Yp (p : ByteArray) (reads : Int) : ASto := ⟨[(tT, [⟨tT, p, plainS, 1, [], false⟩])], 1, reads⟩
def Ye (reads : Int) : ASto := ⟨[(tT, [])], 1, reads⟩
theorem add_1 {u p : ByteArray} {e : Int} (h : nameA u = (p, e)) : addU X1 tT u plainS = if e = 0 then (0, Yp p 0) else (e, X1) := by
  unfold addU
  rw [h]
  rfl
theorem aone_1 (X : ASto) (hX : X.ts = [(tT, [])]) (o : ByteArray) : aone X tT o = none := by
  unfold aone aget
  rw [hX]
  split <;> rfl
theorem aone_p {o p : ByteArray} (h : nameA o = (p, 0)) (reads : Int) : aone (Yp p reads) tT o = some ⟨tT, p, plainS, 1, [], false⟩ := by
  unfold aone aget
  rw [h]
  show (if (0 : Int) = 0 then (aten [(tT, [(⟨tT, p, plainS, 1, [], false⟩ : ACrd)])] tT).bind (fun us => ausr us p) else none) = _
  simp [aten, ausr]
theorem add_p {o p : ByteArray} (h : nameA o = (p, 0)) (reads : Int) : addU (Yp p reads) tT o plainS = (7, Yp p reads) := by
  unfold addU
  rw [h]
  simp [Yp, aten, ausr, show rightA plainS = true from rfl]
theorem drop_p {o p : ByteArray} (h : nameA o = (p, 0)) (reads : Int) : dropU (Yp p reads) tT o = (0, Ye reads) := by
  unfold dropU
  rw [aone_p h, h]
  show (0, ASto.mk (atenU [(tT, [(⟨tT, p, plainS, 1, [], false⟩ : ACrd)])] tT fun us => ausrD us p) 1 reads) = _
  simp [atenU, ausrD, Ye]
theorem drop_e (o : ByteArray) (reads : Int) : dropU (Ye reads) tT o = (6, Ye reads) := by
  unfold dropU
  rw [aone_1 _ rfl]
theorem cur_p {o p : ByteArray} (h : nameA o = (p, 0)) (reads : Int) : curA (Yp p reads) tT o 1 = true := by
  unfold curA
  rw [aone_p h]
  rfl
def pre3 : ByteArray := ⟨#[226, 128, 139]⟩
def post5 : ByteArray := ⟨#[194, 173, 239, 187, 191]⟩
theorem name_front (u : ByteArray) : nameA (pre3 ++ u) = nameA u := by
  unfold nameA
  have : (pre3 ++ u).data.toList = [0xe2, 0x80, 0x8b] ++ u.data.toList := by simp [pre3]
  rw [this, sizF_eq (prepF_front _)]
theorem name_behind (u : ByteArray) : nameA (u ++ post5) = nameA u := by
  unfold nameA
  have : (u ++ post5).data.toList = u.data.toList ++ [0xc2, 0xad, 0xef, 0xbb, 0xbf] := by simp [post5]
  rw [this, sizF_eq (prepF_behind _)]
theorem namF_mem {w : World} (f : Forms 7 w) (s5 : (spansF 5 blanksL).p w) (s6 : (spansF 6 nothingL).p w) (s4 : (spansF 4 barredL).p w) : Mem w [namF] := by
  refine ⟨fun g hg => ?_, fun g hg k hk => ?_, List.pairwise_singleton _ _⟩
  · obtain rfl := List.mem_singleton.1 hg
    intro g hg
    simp only [List.mem_cons, List.not_mem_nil, or_false] at hg
    rcases hg with rfl | rfl | rfl | rfl
    · exact f
    · exact s5
    · exact s6
    · exact s4
  · obtain rfl := List.mem_singleton.1 hg
    obtain ⟨g, hg, hk⟩ := hk
    simp only [List.mem_cons, List.not_mem_nil, or_false] at hg
    rcases hg with rfl | rfl | rfl | rfl
    · exact rd_lt f k hk
    · exact rd_lt s5 k hk
    · exact rd_lt s6 k hk
    · exact rd_lt s4 k hk
set_option maxHeartbeats 4000000 in
theorem credForms_c (w : World) (u0 : ByteArray) (n : Int) (hu0 : u0.size ≤ maxLen) (hn0 : 0 ≤ n) (hm : Mem w [namF]) : Pu Tryd.prog n_ostiarylaw14_CredForms #[.string u0, .int .u8 n] w (.bool true) := by
  have g := good_ostiarylaw14_CredForms w (Un [])
  have hown : ∀ f ∈ [namF], f.own = true → ∀ k, f.D k → Un [] k := ownIn (Gs := []) (fun f hf => by obtain rfl := List.mem_singleton.1 hf; rfl)
  refine con_of_sx (cx := cx_ostiarylaw14_CredForms w (Un [])) g b_ostiarylaw14_CredForms rfl rfl (β := Va.z) [.c (.v (.string u0)), .c (.v (.int .u8 n))] 0 [] [namF] rfl rfl (hm.sat0 rfl hown) ?_
  refine call_pu (fun β w' hs => awake14_c w' hs.mem) ?_
  refine call_con [] (fun β w' hs => cnew_c w') ?_
  rintro v Fs ⟨b, m, rfl, rfl⟩
  refine call_con [0] (fun β w' hs => addTenant_c w' (sto0 b m) tT (by decide) (hs.mem.take (js := [0]) rfl)) ?_
  intro v Fs h
  obtain ⟨S1, rfl, a1, b1, rfl⟩ := stoOut_eq h e1
  replace b1 : S1.b = b := b1
  obtain ⟨u, hu, hus⟩ : ∃ u, u0.extract 0 (min u0.size 30) = u ∧ u.size ≤ 30 := ⟨_, rfl, by rw [ByteArray.size_extract]; omega⟩
  refine call_pu (v := .string u) (fun β w' hs => by
    have h := cutText_c w' u0 30 hu0 (by decide)
    rw [hu] at h
    exact h) ?_
  refine call_con [] (fun β w' hs => plain14_c w') ?_
  rintro v Fs ⟨c0, c1, c2, c3, rfl, rfl⟩
  obtain ⟨p, e, hpe⟩ : ∃ p e, nameA u = (p, e) := ⟨_, _, rfl⟩
  obtain ⟨e', X', hadd⟩ : ∃ e' X', addU X1 tT u plainS = (e', X') := ⟨_, _, rfl⟩
  refine call_conS [4] (R := stoOut S1 (e', X')) (fun β w' hs => by
    have k := (hs.plainF [0, 1, 2, 3] rfl).perm [1, 0, 2]
    have h := add_c w' S1 tT u (plainX c0 c1 c2 c3) plainS (by omega) plainSz k.mem
    rw [b1, a1, hadd] at h
    exact h) ?_
  rintro v Fs ⟨S2, rfl, a2, b2, rfl⟩
  refine ⟨[], [stoF S2, namF], fun β w' hs => hs.perm [0, 5], ?_⟩
  replace b2 : S2.b = b := b2.trans b1
  replace a2 : S2.a = X' := a2
  have hml := maxLen_eq
  refine ⟨by show 3 + u.size ≤ maxLen; omega, ?_⟩
  refine ⟨by decide, _, rfl, ?_⟩
  have hsp : (pre3 ++ u).size ≤ 100 := by rw [ByteArray.size_append]; show 3 + u.size ≤ 100; omega
  have hsq : (u ++ post5).size ≤ 100 := by rw [ByteArray.size_append]; show u.size + 5 ≤ 100; omega
  have main : ∀ o : ByteArray, nameA o = nameA u → o.size ≤ 100 → nameA o = (p, e) := fun o h _ => h.trans hpe
  refine BIf.dec (fun hb => ?_) (fun hb => ?_)
  · refine ⟨by show u.size + 5 ≤ maxLen; omega, ?_⟩
    obtain ⟨o, ho⟩ : ∃ o, o = u ++ post5 := ⟨_, rfl⟩
    have hno : nameA o = (p, e) := by rw [ho]; exact (name_behind u).trans hpe
    have hso : o.size ≤ 100 := by rw [ho]; exact hsq
    replace ho : u ++ (⟨#[194, 173, 239, 187, 191]⟩ : ByteArray) = o := ho.symm
    rw [ho]
    by_cases he : e = 0
    · obtain rfl := he
      rw [add_1 hpe, if_pos rfl] at hadd
      obtain ⟨rfl, rfl⟩ := Prod.mk.inj hadd
      refine call_con [0] (R := findOut S2 tT o) (fun β w' hs => by
        have h := find_c w' S2 tT o (by omega) (fun a ha => by
          rw [a2, aone_p hno] at ha
          obtain rfl := Option.some.inj ha
          exact ⟨plainSz, by show 0 ≤ 1000000; decide⟩) hs.mem
        rw [b2] at h
        exact h) ?_
      intro v Fs h
      unfold findOut at h
      rw [a2, aone_p hno] at h
      obtain ⟨c, hc, rfl, rfl⟩ := h
      have a3 : (stoR S2).a = Yp p 1 := by
        show ASto.mk S2.a.ts S2.a.last (IntKind.u64.wrap (S2.a.reads + 1)) = _
        rw [a2]
        rfl
      have b3 : (stoR S2).b = b := b2
      obtain ⟨cb, ct, cu, csec, cg, cA, cc, cr, cv⟩ := c
      simp only [Crd.a, ACrd.mk.injEq] at hc
      obtain ⟨rfl, rfl, hsec, rfl, rfl, rfl⟩ := hc
      refine call_con [] (fun β w' hs => plain14_c w') ?_
      rintro v Fs ⟨d0, d1, d2, d3, rfl, rfl⟩
      refine call_conS [9] (R := stoOut (stoR S2) (7, Yp cu 1)) (fun β w' hs => by
        have k := (hs.plainF [0, 1, 2, 3] rfl).perm [6, 0, 7]
        have h := add_c w' (stoR S2) tT o (plainX d0 d1 d2 d3) plainS (by omega) plainSz k.mem
        rw [b3, a3, add_p hno] at h
        exact h) ?_
      rintro v Fs ⟨S4, rfl, a4, b4, rfl⟩
      refine ⟨_, [stoF S4, namF], fun β w' hs => hs.perm [0, 10], ?_⟩
      replace b4 : S4.b = b := b4.trans b3
      replace a4 : S4.a = Yp cu 1 := a4
      refine call_pu (v := .bool true) (fun β w' hs => by
        have h := current_a w' S4 tT o 1 (hs.get 0 rfl) (hs.getLt 0 rfl) (by omega) (namF_T (hs.get 1 rfl))
        rw [a4, b4, cur_p hno] at h
        exact h) ?_
      refine call_con [0] (R := stoOut S4 (0, Ye 1)) (fun β w' hs => by
        have h := drop_c w' S4 tT o (by omega) hs.mem
        rw [b4, a4, drop_p hno] at h
        exact h) ?_
      rintro v Fs ⟨S5, rfl, a5, b5, rfl⟩
      replace b5 : S5.b = b := b5.trans b4
      replace a5 : S5.a = Ye 1 := a5
      refine call_con [0] (R := stoOut S5 (6, Ye 1)) (fun β w' hs => by
        have h := drop_c w' S5 tT u (by omega) hs.mem
        rw [b5, a5, drop_e] at h
        exact h) ?_
      rintro v Fs ⟨S6, rfl, _, _, rfl⟩
      intro β w' hs
      exact (hs.keepB (List.nil_sublist _)).fin [] ⟨rfl, rfl⟩
    · rw [add_1 hpe, if_neg he] at hadd
      obtain ⟨rfl, rfl⟩ := Prod.mk.inj hadd
      have hcode := sizF_code u.data.toList 32
      have hee : (sizF u.data.toList 32).2 = e := congrArg Prod.snd hpe
      rw [hee] at hcode
      have a1n : aone S2.a tT o = none := by rw [a2]; exact aone_1 X1 rfl o
      refine call_con [0] (R := findOut S2 tT o) (fun β w' hs => by
        have h := find_c w' S2 tT o (by omega) (fun a ha => by rw [a1n] at ha; cases ha) hs.mem
        rw [b2] at h
        exact h) ?_
      intro v Fs h
      unfold findOut at h
      rw [a1n] at h
      obtain ⟨rfl, rfl⟩ := h
      rcases hcode with h | rfl | rfl | rfl | rfl
      · exact absurd h he
      all_goals
        intro β w' hs
        exact (hs.keepB (List.nil_sublist _)).fin [] ⟨rfl, rfl⟩
  · obtain ⟨o, ho⟩ : ∃ o, o = pre3 ++ u := ⟨_, rfl⟩
    have hno : nameA o = (p, e) := by rw [ho]; exact (name_front u).trans hpe
    have hso : o.size ≤ 100 := by rw [ho]; exact hsp
    replace ho : (⟨#[226, 128, 139]⟩ : ByteArray) ++ u = o := ho.symm
    rw [ho]
    by_cases he : e = 0
    · obtain rfl := he
      rw [add_1 hpe, if_pos rfl] at hadd
      obtain ⟨rfl, rfl⟩ := Prod.mk.inj hadd
      refine call_con [0] (R := findOut S2 tT o) (fun β w' hs => by
        have h := find_c w' S2 tT o (by omega) (fun a ha => by
          rw [a2, aone_p hno] at ha
          obtain rfl := Option.some.inj ha
          exact ⟨plainSz, by show 0 ≤ 1000000; decide⟩) hs.mem
        rw [b2] at h
        exact h) ?_
      intro v Fs h
      unfold findOut at h
      rw [a2, aone_p hno] at h
      obtain ⟨c, hc, rfl, rfl⟩ := h
      have a3 : (stoR S2).a = Yp p 1 := by
        show ASto.mk S2.a.ts S2.a.last (IntKind.u64.wrap (S2.a.reads + 1)) = _
        rw [a2]
        rfl
      have b3 : (stoR S2).b = b := b2
      obtain ⟨cb, ct, cu, csec, cg, cA, cc, cr, cv⟩ := c
      simp only [Crd.a, ACrd.mk.injEq] at hc
      obtain ⟨rfl, rfl, hsec, rfl, rfl, rfl⟩ := hc
      refine call_con [] (fun β w' hs => plain14_c w') ?_
      rintro v Fs ⟨d0, d1, d2, d3, rfl, rfl⟩
      refine call_conS [9] (R := stoOut (stoR S2) (7, Yp cu 1)) (fun β w' hs => by
        have k := (hs.plainF [0, 1, 2, 3] rfl).perm [6, 0, 7]
        have h := add_c w' (stoR S2) tT o (plainX d0 d1 d2 d3) plainS (by omega) plainSz k.mem
        rw [b3, a3, add_p hno] at h
        exact h) ?_
      rintro v Fs ⟨S4, rfl, a4, b4, rfl⟩
      refine ⟨_, [stoF S4, namF], fun β w' hs => hs.perm [0, 10], ?_⟩
      replace b4 : S4.b = b := b4.trans b3
      replace a4 : S4.a = Yp cu 1 := a4
      refine call_pu (v := .bool true) (fun β w' hs => by
        have h := current_a w' S4 tT o 1 (hs.get 0 rfl) (hs.getLt 0 rfl) (by omega) (namF_T (hs.get 1 rfl))
        rw [a4, b4, cur_p hno] at h
        exact h) ?_
      refine call_con [0] (R := stoOut S4 (0, Ye 1)) (fun β w' hs => by
        have h := drop_c w' S4 tT o (by omega) hs.mem
        rw [b4, a4, drop_p hno] at h
        exact h) ?_
      rintro v Fs ⟨S5, rfl, a5, b5, rfl⟩
      replace b5 : S5.b = b := b5.trans b4
      replace a5 : S5.a = Ye 1 := a5
      refine call_con [0] (R := stoOut S5 (6, Ye 1)) (fun β w' hs => by
        have h := drop_c w' S5 tT u (by omega) hs.mem
        rw [b5, a5, drop_e] at h
        exact h) ?_
      rintro v Fs ⟨S6, rfl, _, _, rfl⟩
      intro β w' hs
      exact (hs.keepB (List.nil_sublist _)).fin [] ⟨rfl, rfl⟩
    · rw [add_1 hpe, if_neg he] at hadd
      obtain ⟨rfl, rfl⟩ := Prod.mk.inj hadd
      have hcode := sizF_code u.data.toList 32
      have hee : (sizF u.data.toList 32).2 = e := congrArg Prod.snd hpe
      rw [hee] at hcode
      have a1n : aone S2.a tT o = none := by rw [a2]; exact aone_1 X1 rfl o
      refine call_con [0] (R := findOut S2 tT o) (fun β w' hs => by
        have h := find_c w' S2 tT o (by omega) (fun a ha => by rw [a1n] at ha; cases ha) hs.mem
        rw [b2] at h
        exact h) ?_
      intro v Fs h
      unfold findOut at h
      rw [a1n] at h
      obtain ⟨rfl, rfl⟩ := h
      rcases hcode with h | rfl | rfl | rfl | rfl
      · exact absurd h he
      all_goals
        intro β w' hs
        exact (hs.keepB (List.nil_sublist _)).fin [] ⟨rfl, rfl⟩
end Go.Proofs.YthkjfepbmnabkaaDoor.Sx

/- What a statement's proof has of its arguments, in this executor's words. -/
namespace Go.Proofs.YthkjfepbmnabkaaDoor.Sx
open Go Go.RowKit

theorem below_of {w w' : World} (h : Chg None_ w w') : Below w.heap.size w w' :=
  ⟨h.os, h.tape, h.output, h.size, fun k hk => h.same k hk (fun q => q)⟩
theorem u8_of {x : Int} (h : (Lit.int .u8 x).wf = true) : ∃ k : UInt8, Value.int .u8 x = byte k := by
  have hx : 0 ≤ x ∧ x ≤ 255 := by
    have h2 : IntKind.u8.min ≤ x ∧ x ≤ IntKind.u8.max := by simpa [Lit.wf] using h
    exact h2
  refine ⟨UInt8.ofNat x.toNat, ?_⟩
  unfold byte
  rw [UInt8.toNat_ofNat']
  congr 1
  omega
theorem row_bs {w : World} {a : Option Addr} {len cap : Nat} {zs : List Int}
    (h : (a = none ∧ len = 0 ∧ cap = 0 ∧ zs = []) ∨ ∃ x, a = some x ∧ len ≤ cap ∧ cap ≤ maxLen ∧ zs.length = cap ∧ (∀ i, i < zs.length → w.cell? (x.add i) = some (.int .u8 (zs.getD i 0))) ∧ ∀ n ∈ zs, (Lit.int .u8 n).wf = true) :
    ∃ p : List UInt8, p.length = len ∧ Bs w a p ∧ len ≤ cap ∧ cap ≤ maxLen := by
  rcases h with ⟨rfl, rfl, rfl, rfl⟩ | ⟨x, rfl, h1, h2, rfl, h3, h4⟩
  · exact ⟨[], rfl, Bs.nil _ _, Nat.le_refl _, Nat.zero_le _⟩
  · have hl : ((zs.take len).map (fun z : Int => UInt8.ofNat z.toNat)).length = len := by simp; omega
    refine ⟨(zs.take len).map (fun z : Int => UInt8.ofNat z.toNat), hl, ⟨by simp, fun _ => ⟨x, rfl, fun j u hj => ?_⟩⟩, h1, h2⟩
    have hjl : j < len := by
      have := (List.getElem?_eq_some_iff.1 hj).1
      simp at this; omega
    have hjz : j < zs.length := by omega
    rw [h3 j hjz, ← hj]
    obtain ⟨k, hk⟩ := u8_of (h4 _ (List.getElem_mem hjz))
    have hz : zs.getD j 0 = zs[j] := by simp [hjz]
    simp only [List.getElem?_map, List.getElem?_take, if_pos hjl, List.getElem?_eq_getElem hjz, Option.map_some, hz, hk]
    have hkk : zs[j] = (k.toNat : Int) := by simpa [byte] using hk
    simp [hkk]
end Go.Proofs.YthkjfepbmnabkaaDoor.Sx

/- Tables that are laid: what their cells are. -/
namespace Go.Proofs.YthkjfepbmnabkaaDoor.Sx
open Go

theorem rd_of_ints {H : Type} {enc : TypeId × Value → H} {P : Program} {W : World} {base : Nat} {sp : Nat → Bool} {held : Bool} {fuel g n : Nat} {t e : TypeId} {k : IntKind} {cs : Array Value} {zs : List Int} {q : List MemPlace}
    (ht : P.underlying t = some (.array n e)) (he : P.underlying e = some (.int k)) (hc : P.cellsOf e = 1) (hd : DataW.trod enc P W base sp held fuel t cs.toList = some (.agg (zs.map fun z => .lit (.int k z)), q)) (hcell : ∀ j, W.cell? ⟨g, j, none⟩ = cs[j]?) :
    Rd 1 (some ⟨g, 0, none⟩) zs.length (zs.map (Value.int k)) W := by
  obtain ⟨xs, m, _, hx, hlen, hn, hel⟩ := DataW.trod_array ht hd
  simp only [Prod.mk.injEq, DataW.agg.injEq] at hx
  have hzn : zs.length = n := by
    have h9 := congrArg List.length hx.1
    simp only [List.length_map] at h9
    omega
  refine ⟨by simp, fun hp => ⟨_, rfl, fun j u hu => ?_⟩⟩
  rw [List.getElem?_map] at hu
  obtain ⟨z, hz, rfl⟩ := Option.map_eq_some_iff.1 hu
  have hj : j < zs.length := (List.getElem?_eq_some_iff.1 hz).1
  have h1 := hel j (by omega)
  have h2 : (xs.map (·.1))[j]? = some (.lit (.int k z)) := by rw [← hx.1, List.getElem?_map, hz]; rfl
  rw [List.getElem?_map] at h2
  obtain ⟨x, hxj, hx1⟩ := Option.map_eq_some_iff.1 h2
  rw [hxj, hc, Nat.mul_one] at h1
  obtain ⟨y, e1, e2, _⟩ := DataW.trod_int he h1
  have hy : y = z := by
    rw [e2] at hx1
    simpa using hx1
  subst hy
  rw [add_none, Nat.zero_add, hcell j, ← Array.getElem?_toList]
  have h3 := congrArg (fun l => l[0]?) e1
  simpa [List.getElem?_drop] using h3
theorem opens_string {P : Program} {w : World} {m : Nat} {t : TypeId} {s : ByteArray} (ht : P.underlying t = some .string) (h : Opens P w m t (Value.cells (.string s)).toList) : s.size ≤ maxLen := by
  cases m with
  | zero => exact h.elim
  | succ m =>
    unfold Opens at h
    rw [ht] at h
    obtain ⟨s', h1, h2⟩ := h
    simp [Value.cells] at h1
    subst h1
    exact h2
abbrev u32s (l : List UInt32) : List Int := l.map fun x => (x.toNat : Int)
theorem rd_u32 {g : Nat} {W : World} {l : List UInt32} (h : Rd 1 (some ⟨g, 0, none⟩) (u32s l).length ((u32s l).map (Value.int .u32)) W) : Rd 1 (some ⟨g, 0, none⟩) l.length (l.map u32) W := by
  have e : (u32s l).map (Value.int .u32) = l.map u32 := by rw [List.map_map]; rfl
  rw [e, List.length_map] at h
  exact h
end Go.Proofs.YthkjfepbmnabkaaDoor.Sx

/- Tables that are laid, of any plain types: their cells are what they hold, in order. -/
namespace Go.Proofs.YthkjfepbmnabkaaDoor.Sx
open Go

mutual
def lits {H : Type} : DataW H → Option (List Value)
  | .lit (.int k n) => some [.int k n]
  | .lit (.bool b) => some [.bool b]
  | .lit (.string l) => some [.string ⟨l.toArray⟩]
  | .agg ps => litsL ps
  | _ => none
def litsL {H : Type} : List (DataW H) → Option (List Value)
  | [] => some []
  | d :: r => match lits d, litsL r with
    | some a, some b => some (a ++ b)
    | _, _ => none
end
def contig (P : Program) : List Field → Nat → Option Nat
  | [], o => some o
  | f :: r, o => if f.offset = o then contig P r (o + P.cellsOf f.type) else none
def flatB (P : Program) : Nat → TypeId → Bool
  | 0, _ => false
  | n + 1, t => match P.underlying t with
    | some (.int _) | some .bool | some .string => true
    | some (.struct fs) => (match contig P fs.toList 0 with | some e => Nat.beq e (P.cellsOf t) | none => false) && fs.toList.all fun f => flatB P n f.type
    | some (.array m e) => Nat.beq (m * P.cellsOf e) (P.cellsOf t) && flatB P n e
    | _ => false
section
variable {H : Type} {enc : TypeId × Value → H} {P : Program} {w : World} {base : Nat} {sp : Nat → Bool} {held : Bool}
theorem fields_cat (m : Nat) (cs : List Value) : ∀ (fs : List Field) (xs : List (DataW H × List MemPlace)) (o e : Nat), contig P fs o = some e → xs.length = fs.length →
    (∀ (i : Nat) (f : Field), fs[i]? = some f → DataW.trod enc P w base sp held m f.type ((cs.drop f.offset).take (P.cellsOf f.type)) = xs[i]?) →
    (∀ f ∈ fs, ∀ cs' x, DataW.trod enc P w base sp held m f.type cs' = some x → lits x.1 = some cs') → o ≤ e ∧ litsL (xs.map (·.1)) = some ((cs.drop o).take (e - o))
  | [], xs, o, e, hc, hl, _, _ => by
    obtain rfl := Option.some.inj hc
    obtain rfl := List.eq_nil_of_length_eq_zero hl
    exact ⟨Nat.le_refl _, by simp [litsL]⟩
  | f :: r, [], o, e, hc, hl, _, _ => by cases hl
  | f :: r, x :: xs, o, e, hc, hl, h, ih => by
    simp only [contig] at hc
    split at hc
    · rename_i ho
      have h0 := h 0 f rfl
      rw [ho] at h0
      have h1 := ih f List.mem_cons_self _ x h0
      obtain ⟨h2, h3⟩ := fields_cat m cs r xs _ e hc (by simpa using hl) (fun i g hg => by
        have := h (i + 1) g (by simpa using hg)
        simpa using this) (fun g hg => ih g (List.mem_cons_of_mem _ hg))
      refine ⟨by omega, ?_⟩
      simp only [List.map_cons, litsL, h1, h3]
      congr 1
      have e1 : e - o = P.cellsOf f.type + (e - (o + P.cellsOf f.type)) := by omega
      rw [e1, List.take_add, List.drop_drop]
    · cases hc
theorem elems_cat (m k : Nat) (ty : TypeId) (cs : List Value) (hk : P.cellsOf ty = k) : ∀ (n : Nat) (xs : List (DataW H × List MemPlace)) (o : Nat), xs.length = n →
    (∀ i, i < n → DataW.trod enc P w base sp held m ty ((cs.drop (o + i * k)).take k) = xs[i]?) →
    (∀ cs' x, DataW.trod enc P w base sp held m ty cs' = some x → lits x.1 = some cs') → litsL (xs.map (·.1)) = some ((cs.drop o).take (n * k))
  | 0, xs, o, hl, _, _ => by
    obtain rfl := List.eq_nil_of_length_eq_zero hl
    simp [litsL]
  | n + 1, [], o, hl, _, _ => by cases hl
  | n + 1, x :: xs, o, hl, h, ih => by
    have h0 := h 0 (Nat.succ_pos _)
    rw [Nat.zero_mul, Nat.add_zero] at h0
    have h1 := ih _ x h0
    have h3 := elems_cat m k ty cs hk n xs (o + k) (by simpa using hl) (fun i hi => by
      have := h (i + 1) (by omega)
      rw [Nat.succ_mul, Nat.add_comm (i * k) k, ← Nat.add_assoc] at this
      simpa using this) ih
    simp only [List.map_cons, litsL, h1, h3]
    congr 1
    rw [Nat.succ_mul, Nat.add_comm (n * k) k, List.take_add, List.drop_drop]
theorem cells_of : ∀ (k m : Nat) (t : TypeId) (cs : List Value) (x : DataW H × List MemPlace), flatB P k t = true → DataW.trod enc P w base sp held m t cs = some x → lits x.1 = some cs
  | 0, _, _, _, _, h, _ => by cases h
  | k + 1, m, t, cs, x, h, hd => by
    unfold flatB at h
    split at h
    · rename_i ht
      obtain ⟨n, rfl, rfl, _⟩ := DataW.trod_int ht hd
      rfl
    · rename_i ht
      obtain ⟨n, rfl, rfl⟩ := DataW.trod_bool ht hd
      rfl
    · rename_i ht
      obtain ⟨s, rfl, rfl, _⟩ := DataW.trod_string ht hd
      cases s with | mk a => simp [lits, ByteArray.toList_eq]
    · rename_i fs ht
      obtain ⟨xs, n, rfl, rfl, hl, hxl, hel⟩ := DataW.trod_struct ht hd
      simp only [Bool.and_eq_true] at h
      obtain ⟨hcon, hall⟩ := h
      cases hc : contig P fs.toList 0 with
      | none => rw [hc] at hcon; cases hcon
      | some e =>
        rw [hc] at hcon
        have he := Nat.eq_of_beq_eq_true hcon
        subst he
        have := (fields_cat n cs fs.toList xs 0 _ hc (by simpa using hxl) (fun i f hf => hel i f (by simpa using hf)) (fun f hf cs' x' hx => cells_of k n f.type cs' x' (List.all_eq_true.1 hall f hf) hx)).2
        simp only [lits, this, List.drop_zero, Nat.sub_zero]
        rw [← hl, List.take_length]
    · rename_i n e ht
      obtain ⟨xs, m', rfl, rfl, hl, hxl, hel⟩ := DataW.trod_array ht hd
      simp only [Bool.and_eq_true] at h
      have he := Nat.eq_of_beq_eq_true h.1
      have := elems_cat m' (P.cellsOf e) e cs rfl n xs 0 hxl (fun i hi => by rw [Nat.zero_add]; exact hel i hi) (fun cs' x' hx => cells_of k m' e cs' x' h.2 hx)
      simp only [lits, this, List.drop_zero, he]
      rw [← hl, List.take_length]
    · cases h
theorem rd_of_laid {g n size m : Nat} {t : TypeId} {cs : Array Value} {d : DataW H} {q : List MemPlace} {vs : List Value} (hf : flatB P 5 t = true) (hv : lits d = some vs) (hn : vs.length = n * size)
    (hd : DataW.trod enc P w base sp held m t cs.toList = some (d, q)) (hcell : ∀ j, w.cell? ⟨g, j, none⟩ = cs[j]?) : Rd size (some ⟨g, 0, none⟩) n vs w := by
  have h := cells_of 5 m t _ _ hf hd
  rw [hv] at h
  have h' := Option.some.inj h
  refine ⟨hn, fun _ => ⟨_, rfl, fun j u hu => ?_⟩⟩
  rw [add_none, Nat.zero_add, hcell j, ← Array.getElem?_toList, ← h']
  exact hu
end
end Go.Proofs.YthkjfepbmnabkaaDoor.Sx
