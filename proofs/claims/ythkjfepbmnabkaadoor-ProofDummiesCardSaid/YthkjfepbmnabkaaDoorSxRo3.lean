/- Soundness of 'rowp' as a whole. -/
import Derived.Test.YthkjfepbmnabkaaDoorSxRo2
namespace Go.Proofs.YthkjfepbmnabkaaDoor.Sx
open Go

section
variable {cx : Cx} {β : Va} {n : Nat} {env : Env} {H : List Bk} {F : List Fact} {a : Act} {u : World} {kk : SV → Prop}

theorem capsOf_sound (h : Inv cx β n env H F a u) : ∀ (xs : List Operand) (l : List SL), capsOf env xs = some l → xs.map a.eval = l.map (SL.val β) ∧ ∀ x ∈ l, x.lt n
  | [], l, hl => by
    simp only [capsOf, Option.some.injEq] at hl
    subst hl
    exact ⟨rfl, fun x hx => by cases hx⟩
  | x :: r, l, hl => by
    simp only [capsOf] at hl
    split at hl
    · rename_i y l' he hr
      obtain rfl := Option.some.inj hl
      obtain ⟨h1, h2⟩ := capsOf_sound h r l' hr
      obtain ⟨h3, h4⟩ := h.ev he
      refine ⟨by simp only [List.map_cons, h1, h3]; rfl, fun z hz => ?_⟩
      rcases List.mem_cons.1 hz with rfl | hz
      · exact h4
      · exact h2 z hz
    · cases hl

theorem bytes_nums (l : List UInt8) : (strOfNums (l.map fun x => (x.toNat : Int))) = ⟨l.toArray⟩ := by
  have : (strOfNums (l.map fun x => (x.toNat : Int))).data.toList = l := by
    rw [strOfNums_data, List.map_map]
    conv => rhs; rw [← List.map_id l]
    refine List.map_congr_left fun x _ => ?_
    simp
  cases hx : strOfNums (l.map fun x => (x.toNat : Int)) with
  | mk d =>
    rw [hx] at this
    simp only at this
    rw [← this]

theorem run_bytes_string {P : Program} {w : World} {src dst e : TypeId} (hs : P.underlying src = some (.slice e)) (he : P.underlying e = some (.int .u8)) (hd : P.underlying dst = some .string) {A : Option Addr} {m c : Nat} {l : List UInt8}
    (h : Rd 1 A m (l.map byte) w) : (convert src dst (.slice A m c)).run P w = .ok (.string ⟨l.toArray⟩) w := by
  obtain ⟨hl, h1⟩ := h
  simp only [List.length_map, Nat.mul_one] at hl
  rw [run_convert_bytes_string w src dst e A m c hs he hd]
  cases A with
  | none =>
    have : m = 0 := by
      rcases Nat.eq_zero_or_pos m with h0 | h0
      · exact h0
      · obtain ⟨ad, q, _⟩ := h1 h0; cases q
    subst this
    have : l = [] := List.eq_nil_of_length_eq_zero hl
    subst this
    simp [Conv.bytesToString]
    rfl
  | some ad =>
    have hc : (loadCells ad m).run P w = .ok (((l.map fun x => (x.toNat : Int)).map (Value.int .u8)).toArray) w := by
      have h2 := run_loadCells_list (P := P) (w := w) ad (l.map byte) (by
        intro j u hj
        rcases Nat.eq_zero_or_pos m with h0 | h0
        · rw [h0] at hl
          rw [List.eq_nil_of_length_eq_zero hl] at hj
          simp at hj
        · obtain ⟨ad', q, h3⟩ := h1 h0
          obtain rfl := Option.some.inj q
          exact h3 j u hj)
      rw [List.length_map, hl] at h2
      rw [h2, List.map_map]
      rfl
    rw [run_bytesToString w ad m c _ hc, foldl_push_bytes]
    have := bytes_nums l
    simp only [strOfNums] at this
    rw [← this]
    congr 2
    simp [ByteArray.empty, ByteArray.emptyWithCapacity]
    rfl

theorem cvwp_sound (g : Good cx) {src dst : TypeId} {s : SV} (hp : cvwp cx n H F src dst s kk) :
    ∃ r, SV.lt n r ∧ kk r ∧ ∀ w, Sat cx β n H F w → (convert src dst (s.val β)).run cx.P w = .ok (r.val β) w := by
  unfold cvwp at hp
  split at hp
  · rename_i i j hi hj
    have ti := g.ti hi
    have tj := g.ti hj
    split at hp
    · rename_i k0 k k1 x hdi hdj
      obtain ⟨r, rfl, hk⟩ := hp
      refine ⟨.c (.v _), trivial, hk, fun w _ => ?_⟩
      have h1 := run_underlying (ti.real (d := .int _) hdi rfl) w
      have h2 := run_underlying (tj.real (d := .int _) hdj rfl) w
      simp [convert, h1, h2, SV.val, SL.val, Conv.intToInt]
    · rename_i x hdi hdj
      refine ⟨.c (.v _), trivial, hp, fun w _ => ?_⟩
      have h1 := run_underlying (ti.real (d := .string) hdi rfl) w
      have h2 := run_underlying (tj.real (d := .string) hdj rfl) w
      simp [convert, h1, h2, SV.val, SL.val]
    · rename_i e A m c hdi hdj
      split at hp
      · rename_i ie hie
        have tie := g.ti hie
        split at hp
        · rename_i hde
          obtain ⟨l, hr, hk⟩ := hp
          refine ⟨.c (.v _), trivial, hk, fun w hw => ?_⟩
          exact run_bytes_string (ti.real (d := .slice _) hdi rfl) (tie.real (d := .int _) hde rfl) (tj.real (d := .string) hdj rfl) (hr β w hw)
        · exact hp.elim
      · exact hp.elim
    · exact hp.elim
  · exact hp.elim

theorem slen_sound {P : Program} {t : TypeId} {i : TI} (ti : TiOk P t i) (ty : TypeId) (ts : Array TypeId) (hts : ts[0]? = some t) {s : SV} (hp : slen s kk i.desc) (vs : Array Value) (hvs : vs[0]? = some (s.val β)) :
    ∃ r, SV.lt n r ∧ kk r ∧ ∀ w, (Builtin.len_ ts ty vs).run P w = .ok (r.val β) w := by
  unfold slen at hp
  split at hp
  · rename_i m _ e hd
    refine ⟨.c (.v _), trivial, hp, fun w => ?_⟩
    have h1 := run_underlying (ti.real (d := .slice _) hd rfl) w
    simp [Builtin.len_, hts, hvs, h1, SV.val, SL.val, goInt]
  · rename_i x hd
    refine ⟨.c (.v _), trivial, hp, fun w => ?_⟩
    have h1 := run_underlying (ti.real (d := .string) hd rfl) w
    simp [Builtin.len_, hts, hvs, h1, SV.val, SL.val, goInt]
  · exact hp.elim
theorem scap_sound {P : Program} {t : TypeId} {i : TI} (ti : TiOk P t i) (ty : TypeId) (ts : Array TypeId) (hts : ts[0]? = some t) {s : SV} (hp : scap s kk i.desc) (vs : Array Value) (hvs : vs[0]? = some (s.val β)) :
    ∃ r, SV.lt n r ∧ kk r ∧ ∀ w, (Builtin.cap_ ts ty vs).run P w = .ok (r.val β) w := by
  unfold scap at hp
  split at hp
  · rename_i m c e hd
    refine ⟨.c (.v _), trivial, hp, fun w => ?_⟩
    have h1 := run_underlying (ti.real (d := .slice _) hd rfl) w
    simp [Builtin.cap_, hts, hvs, h1, SV.val, SL.val, goInt]
  · exact hp.elim

theorem lkres_spec (n : Nat) (β : Va) (ok : Bool) (r : Option Value) (z : Value) : SV.lt n (lkres ok r z) ∧ (lkres ok r z).val β = (match ok with | true => .tuple #[r.getD z, .bool r.isSome] | false => r.getD z) := by
  cases ok
  · exact ⟨ofValue_lt _ _, ofValue_val _ _⟩
  · exact ⟨trivial, rfl⟩
theorem lkwp_sound (g : Good cx) {t : TypeId} {s v : SV} {ok : Bool} (hp : lkwp cx n H F t s v ok kk) :
    ∃ r, SV.lt n r ∧ kk r ∧ ∀ w, Sat cx β n H F w → (Instr.lookup t (s.val β) (v.val β) ok).run cx.P w = .ok (r.val β) w := by
  have hres := lkres_spec n β ok
  unfold lkwp at hp
  split at hp
  · rename_i i hi
    have ti := g.ti hi
    split at hp
    · rename_i kt et m k hd
      split at hp
      · rename_i ik hik
        have tik := g.ti hik
        split at hp
        · rename_i hdk
          have ht := ti.real (d := .map _ _) hd rfl
          have hk := tik.real (d := .string) hdk rfl
          obtain ⟨z, hz, hp⟩ := hp
          cases m with
          | none =>
            refine ⟨lkres ok none z, (hres none z).1, hp, fun w _ => ?_⟩
            rw [(hres none z).2]
            exact run_lookup_nil ht hk k z (hz w) ok
          | some b =>
            obtain ⟨l, r, hm, rfl, hp⟩ := hp
            refine ⟨lkres ok (mlook l k) z, (hres _ z).1, hp, fun w hw => ?_⟩
            rw [(hres _ z).2]
            exact run_lookup ht hk (hm β w hw) k z (hz w) ok
        · exact hp.elim
      · exact hp.elim
    · exact hp.elim
  · exact hp.elim
theorem run_len_map {P : Program} {t kt et : TypeId} (ht : P.underlying t = some (.map kt et)) (ty : TypeId) (ts : Array TypeId) (hts : ts[0]? = some t) (vs : Array Value) {w : World} {b : Nat} {l : ML} (h : mapP b l w) (hvs : vs[0]? = some (.map (some b))) :
    (Builtin.len_ ts ty vs).run P w = .ok (.int .i64 l.length) w := by
  obtain ⟨es, k, hb, hm⟩ := h
  have hl : es.length = l.length := by rw [← hm.cut, List.length_map]
  have hg : (getObj b).run P w = .ok (.map (es.map ME.ent).toArray k) w := MapKept.run_getObj_map hb
  simp [Builtin.len_, hts, hvs, run_underlying ht, hg, goInt, hl]

theorem run_call {P : Program} (a : Act) (c : Call) (b : Builtin) (hb : c.callee = .builtin b) (ty : TypeId) (w : World) (v : Value)
    (h : (builtin b c.argTypes ty (c.args.map fun | .const _ => true | _ => false) (c.args.map a.eval)).run P w = .ok (.value v) w) :
    (do let d ← resolve a.eval c ty; invoke d.target d.args : Sem Next).run P w = .ok (.value v) w := by
  simp only [resolve, hb, Sem.run_bind, Sem.run_pure, Result.andThen_ok, invoke]
  exact h

theorem rowp_sound (g : Good cx) (h : Inv cx β n env H F a u) (o : Oper) (hno : ∀ t x lo hi mx, o.op = .slice t x lo hi mx → mx.isSome = true → hi.isSome = true) (hp : rowp cx n env H F o.op kk) :
    ∃ r, SV.lt n r ∧ kk r ∧ ∀ w, Sat cx β n H F w → (execOp a.eval o).run cx.P w = .ok (.value (r.val β)) w := by
  obtain ⟨dst, op, ty, pos, after, guard⟩ := o
  cases op <;> simp only [rowp] at hp <;> try exact hp.elim
  case move x =>
    split at hp
    · rename_i s he
      obtain ⟨h1, h2⟩ := h.ev he
      exact ⟨s, h2, hp, fun w _ => by simp [execOp, h1]⟩
    · exact hp.elim
  case assign x =>
    split at hp
    · rename_i s he
      obtain ⟨h1, h2⟩ := h.ev he
      exact ⟨s, h2, hp, fun w _ => by simp [execOp, h1]⟩
    · exact hp.elim
  case pick c x y =>
    split at hp
    · rename_i b s v hc hx hy
      obtain ⟨h1, _⟩ := h.ev hc
      obtain ⟨h3, h4⟩ := h.ev hx
      obtain ⟨h5, h6⟩ := h.ev hy
      cases b
      · exact ⟨v, h6, hp, fun w _ => by simp [execOp, h1, h5, SV.val, SL.val, asBool]⟩
      · exact ⟨s, h4, hp, fun w _ => by simp [execOp, h1, h3, SV.val, SL.val, asBool]⟩
    · exact hp.elim
  case nilCheck x =>
    split at hp
    · rename_i id o he
      obtain ⟨h1, h2⟩ := h.ev he
      exact ⟨_, h2, hp, fun w _ => by simp [execOp, h1, SV.val, SL.val]⟩
    · rename_i ad he
      obtain ⟨h1, h2⟩ := h.ev he
      exact ⟨_, h2, hp, fun w _ => by simp [execOp, h1, SV.val, SL.val]⟩
    · exact hp.elim
  case binOp op t x y ty2 =>
    split at hp
    · rename_i i s v hi hx hy
      obtain ⟨h1, _⟩ := h.ev hx
      obtain ⟨h3, _⟩ := h.ev hy
      obtain ⟨r, h5, h6, h7⟩ := binwp_sound (P := cx.P) (g.ti hi) x y hp
      refine ⟨r, h5 n, h6, fun w _ => ?_⟩
      have h8 := h7 β w
      simp only [binSem] at h8
      simp only [execOp, h1, h3, Sem.run_bind, Sem.run_pure]
      simp only [Sem.run_bind] at h8
      rw [h8]
      rfl
    · exact hp.elim
  case unOp op t x =>
    split at hp
    · rename_i s hx
      obtain ⟨h1, _⟩ := h.ev hx
      obtain ⟨r, h5, h6, h7⟩ := unwp_sound (P := cx.P) hp
      exact ⟨r, h5 n, h6, fun w _ => by simp [execOp, h1, h7 β w]⟩
    · exact hp.elim
  case convert src dst x =>
    split at hp
    · rename_i s hx
      obtain ⟨h1, _⟩ := h.ev hx
      obtain ⟨r, h5, h6, h7⟩ := cvwp_sound (β := β) g hp
      exact ⟨r, h5, h6, fun w hw => by simp [execOp, h1, h7 w hw]⟩
    · exact hp.elim
  case load t x =>
    split at hp
    · rename_i s hx
      obtain ⟨h1, h2⟩ := h.ev hx
      obtain ⟨r, h5, h6, h7⟩ := ldwp_sound g h2 hp h.sat
      exact ⟨r, h5, h6, fun w hw => by simp [execOp, h1, h7 w hw]⟩
    · exact hp.elim
  case slice t x lo hi mx =>
    split at hp
    · rename_i s hx
      obtain ⟨h1, _⟩ := h.ev hx
      obtain ⟨r, h5, h6, h7⟩ := slwp_sound g h (hno t x lo hi mx rfl) hp
      exact ⟨r, h5, h6, fun w _ => by simp [execOp, h1, h7 w]⟩
    · exact hp.elim
  case fieldAddr t x f =>
    split at hp
    · rename_i s hx
      obtain ⟨h1, h2⟩ := h.ev hx
      obtain ⟨r, h5, h6, h7⟩ := fawp_sound (β := β) g h2 hp
      exact ⟨r, h5, h6, fun w _ => by simp [execOp, h1, h7 w]⟩
    · exact hp.elim
  case field t x f =>
    split at hp
    · rename_i s hx
      obtain ⟨h1, h2⟩ := h.ev hx
      obtain ⟨r, h5, h6, h7⟩ := fvwp_sound (β := β) g h2 hp
      exact ⟨r, h5, h6, fun w _ => by simp [execOp, h1, h7 w]⟩
    · exact hp.elim
  case indexAddr t x y =>
    split at hp
    · rename_i s v hx hy
      obtain ⟨h1, h2⟩ := h.ev hx
      obtain ⟨h3, _⟩ := h.ev hy
      obtain ⟨r, h5, h6, h7⟩ := ixwp_sound (β := β) g h2 hp
      exact ⟨r, h5, h6, fun w _ => by simp [execOp, h1, h3, h7 w]⟩
    · exact hp.elim
  case index t x y =>
    split at hp
    · rename_i s v hx hy
      obtain ⟨h1, h2⟩ := h.ev hx
      obtain ⟨h3, _⟩ := h.ev hy
      obtain ⟨r, h5, h6, h7⟩ := ivwp_sound (β := β) g h2 hp
      exact ⟨r, h5, h6, fun w _ => by simp [execOp, h1, h3, h7 w]⟩
    · exact hp.elim
  case extract x i =>
    split at hp
    · rename_i s hx
      obtain ⟨h1, _⟩ := h.ev hx
      obtain ⟨r, h5, h6, h7⟩ := exwp_sound (cx := cx) (β := β) (n := n) hp
      exact ⟨r, h5, h6, fun w _ => by simp [execOp, h1, h7 w]⟩
    · exact hp.elim
  case lookup t x y ok =>
    split at hp
    · rename_i s v hx hy
      obtain ⟨h1, _⟩ := h.ev hx
      obtain ⟨h3, _⟩ := h.ev hy
      obtain ⟨r, h5, h6, h7⟩ := lkwp_sound (β := β) g hp
      exact ⟨r, h5, h6, fun w hw => by simp [execOp, h1, h3, h7 w hw]⟩
    · exact hp.elim
  case build t parts =>
    obtain ⟨r, h5, h6, h7⟩ := buwp_sound g h hp
    exact ⟨r, h5, h6, fun w _ => by simp [execOp, h7 w]⟩
  case makeFunc f first caps =>
    split at hp
    · rename_i l m hl hm
      obtain ⟨h1, h2⟩ := capsOf_sound h _ _ hl
      obtain ⟨h3, h4⟩ := capsOf_sound h _ _ hm
      refine ⟨.fn f l m, ⟨h2, h4⟩, hp, fun w _ => ?_⟩
      have e1 : first.map a.eval = (l.map (SL.val β)).toArray := by apply Array.ext'; rw [Array.toList_map]; exact h1
      have e2 : caps.map a.eval = (m.map (SL.val β)).toArray := by apply Array.ext'; rw [Array.toList_map]; exact h3
      simp [execOp, Instr.makeFunc, e1, e2, SV.val]
    · exact hp.elim
  case call c =>
    have hb1 : ∀ (f : SV → (SV → Prop) → TD → Prop) (b : Builtin), c.callee = .builtin b → bi1 cx env c f kk →
        (∀ (t : TypeId) (i : TI), TiOk cx.P t i → c.argTypes[0]? = some t → ∀ s, f s kk i.desc → (c.args.map a.eval)[0]? = some (s.val β) → ∃ r, SV.lt n r ∧ kk r ∧ ∀ w, (builtin b c.argTypes ty (c.args.map fun | .const _ => true | _ => false) (c.args.map a.eval)).run cx.P w = .ok (.value (r.val β)) w) →
        ∃ r, SV.lt n r ∧ kk r ∧ ∀ w, Sat cx β n H F w → (execOp a.eval { dst, op := .call c, type := ty, pos, after, guard }).run cx.P w = .ok (.value (r.val β)) w := by
      intro f b hb hq hf
      simp only [bi1] at hq
      split at hq
      · rename_i x xs t ts hxs hts
        split at hq
        · rename_i s i he hi
          have e1 : c.argTypes[0]? = some t := by rw [← Array.getElem?_toList, hts]; rfl
          have e2 : (c.args.map a.eval)[0]? = some (s.val β) := by
            rw [Array.getElem?_map, ← Array.getElem?_toList, hxs]
            simp [(h.ev he).1]
          obtain ⟨r, h1, h2, h3⟩ := hf t i (g.ti hi) e1 s hq e2
          exact ⟨r, h1, h2, fun w _ => run_call a c b hb ty w _ (h3 w)⟩
        · exact hq.elim
      · exact hq.elim
    have hmm : ∀ (mx : Bool) (b : Builtin), c.callee = .builtin b → mmwp mx env c.args.toList kk →
        (∀ k x y w, (builtin b c.argTypes ty (c.args.map fun | .const _ => true | _ => false) #[.int k x, .int k y]).run cx.P w = .ok (.value (.int k (match mx with | true => max x y | false => min x y))) w) →
        (∀ k l x y w, (builtin b c.argTypes ty (c.args.map fun | .const _ => true | _ => false) #[.int k x, .int l y]).run cx.P w = .ok (.value (.int k (match mx with | true => max x y | false => min x y))) w) →
        ∃ r, SV.lt n r ∧ kk r ∧ ∀ w, Sat cx β n H F w → (execOp a.eval { dst, op := .call c, type := ty, pos, after, guard }).run cx.P w = .ok (.value (r.val β)) w := by
      intro mx b hb hq _ hf
      unfold mmwp at hq
      split at hq
      · rename_i x y hxs
        split at hq
        · rename_i k i l j hx hy
          obtain ⟨r, hr, hk⟩ := hq
          refine ⟨.c (.v (.int k r)), trivial, hk, fun w _ => run_call a c b hb ty w _ ?_⟩
          have e2 : c.args.map a.eval = #[.int k i, .int l j] := by
            apply Array.ext'
            rw [Array.toList_map, hxs]
            simp [(h.ev hx).1, (h.ev hy).1, SV.val, SL.val]
          rw [e2, ← hr]
          exact hf k l i j w
        · exact hq.elim
      · exact hq.elim
    split at hp
    · rename_i hb
      unfold lenwp at hp
      split at hp
      · rename_i x xs t ts hxs hts
        split at hp
        · rename_i s i he hi
          have e1 : c.argTypes[0]? = some t := by rw [← Array.getElem?_toList, hts]; rfl
          have e2 : (c.args.map a.eval)[0]? = some (s.val β) := by
            rw [Array.getElem?_map, ← Array.getElem?_toList, hxs]
            simp [(h.ev he).1]
          have ti := g.ti hi
          split at hp
          · rename_i m kt et hd
            have ht := ti.real (d := .map _ _) hd rfl
            cases m with
            | none =>
              refine ⟨.c (.v (.int .i64 0)), trivial, hp, fun w _ => run_call a c .len hb ty w _ ?_⟩
              have e3 : (c.args.map a.eval)[0]? = some (.map none) := e2
              simp [builtin, Builtin.len_, e1, e3, run_underlying ht, goInt, SV.val, SL.val]
            | some b =>
              obtain ⟨l, hm, hk⟩ := hp
              refine ⟨.c (.v (.int .i64 l.length)), trivial, hk, fun w hw => run_call a c .len hb ty w _ ?_⟩
              have e3 : (c.args.map a.eval)[0]? = some (.map (some b)) := e2
              have := run_len_map ht ty c.argTypes e1 (c.args.map a.eval) (hm β w hw) e3
              simp [builtin, this, SV.val, SL.val]
          · obtain ⟨r, h1, h2, h3⟩ := slen_sound (n := n) ti ty c.argTypes e1 hp _ e2
            exact ⟨r, h1, h2, fun w _ => run_call a c .len hb ty w _ (by simp [builtin, h3 w])⟩
        · exact hp.elim
      · exact hp.elim
    · rename_i hb
      exact hb1 scap .cap hb hp fun t i ti e1 s hs e2 => by
        obtain ⟨r, h1, h2, h3⟩ := scap_sound (n := n) ti ty c.argTypes e1 hs _ e2
        exact ⟨r, h1, h2, fun w => by simp [builtin, h3 w]⟩
    · rename_i hb
      have key : ∀ k l x y w, (builtin .min c.argTypes ty (c.args.map fun | .const _ => true | _ => false) #[.int k x, .int l y]).run cx.P w = .ok (.value (.int k (min x y))) w := fun k l x y w => by
        have : (if y < x then y else x) = min x y := by omega
        simp [builtin, Builtin.min_, Builtin.min2, this]
      exact hmm false .min hb hp (fun k x y w => key k k x y w) key
    · rename_i hb
      have key : ∀ k l x y w, (builtin .max c.argTypes ty (c.args.map fun | .const _ => true | _ => false) #[.int k x, .int l y]).run cx.P w = .ok (.value (.int k (max x y))) w := fun k l x y w => by
        have : (if y > x then y else x) = max x y := by omega
        simp [builtin, Builtin.max_, Builtin.max2]
        omega
      exact hmm true .max hb hp (fun k x y w => key k k x y w) key
    · exact hp.elim
end
end Go.Proofs.YthkjfepbmnabkaaDoor.Sx
