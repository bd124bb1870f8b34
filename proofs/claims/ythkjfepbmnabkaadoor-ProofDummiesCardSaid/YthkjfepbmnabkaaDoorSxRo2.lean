/- Soundness of the operations that leave the world alone, the rest of them. -/
import Derived.Test.YthkjfepbmnabkaaDoorSxRo
namespace Go.Proofs.YthkjfepbmnabkaaDoor.Sx
open Go

section
variable {cx : Cx} {β : Va} {n : Nat} {env : Env} {H : List Bk} {F : List Fact} {a : Act} {u : World} {kk : SV → Prop}

theorem slwp_sound (g : Good cx) (h : Inv cx β n env H F a u) {t : TypeId} {s : SV} {lo hi mx : Option Operand} (hno : mx.isSome = true → hi.isSome = true) (hp : slwp cx env t s lo hi mx kk) :
    ∃ r, SV.lt n r ∧ kk r ∧ ∀ w, (Instr.sliceAt t (s.val β) (lo.map a.eval) (hi.map a.eval) (mx.map a.eval)).run cx.P w = .ok (r.val β) w := by
  unfold slwp at hp
  split at hp
  · rename_i i ilo ihi imx hti hlo hhi hmx
    have ti := g.ti hti
    split at hp
    · rename_i e A m c hd
      split at hp
      · rename_i ie hie
        have tie := g.ti hie
        obtain ⟨m', hh, l, p, q, A', hm, hh', hl, h1, h2, h3, rfl, rfl, rfl, hk⟩ := hp
        refine ⟨.c (.v _), trivial, hk, fun w => ?_⟩
        have hb := run_bounds (P := cx.P) (w := w) h hlo hhi hmx true hm hh' hl h1 h2 h3 hno
        have hu := run_underlying (ti.real (d := .slice _) hd rfl) w
        simp [Instr.sliceAt, Instr.slice, hu, SV.val, SL.val, hb, tie.run_size, cutA]
      · exact hp.elim
    · rename_i arr ad hd
      split at hp
      · rename_i ia hia
        have tia := g.ti hia
        split at hp
        · rename_i k e hda
          split at hp
          · rename_i ie hie
            have tie := g.ti hie
            obtain ⟨m', hh, l, p, q, A', hm, hh', hl, h1, h2, h3, rfl, rfl, rfl, hk⟩ := hp
            refine ⟨.c (.v _), trivial, hk, fun w => ?_⟩
            have hb := run_bounds (P := cx.P) (w := w) h hlo hhi hmx false hm hh' hl h1 h2 h3 hno
            have hu := run_underlying (ti.real (d := .pointer _) hd rfl) w
            have hu2 := run_underlying (tia.real (d := .array _ _) hda rfl) w
            have hA : (asAddr (.pointer (some ad))).run cx.P w = .ok ad w := rfl
            simp only [Instr.sliceAt, Instr.sureAddr, pure_bind, Instr.slice, Sem.run_bind, hu, SV.val, SL.val, Result.andThen_ok, hu2, hA, hb, tie.run_size, Sem.run_pure, cutA]
            split <;> rfl
          · exact hp.elim
        · exact hp.elim
      · exact hp.elim
    · rename_i x hd
      split at hp
      · obtain ⟨hh, l, hh', hl, h2, h3, hk⟩ := hp
        refine ⟨.c (.v _), trivial, hk, fun w => ?_⟩
        have hmx0 : mx = none := by
          rcases optInt_sound h hmx with ⟨h1, _⟩ | ⟨_, _, _, h1⟩
          · exact h1
          · cases h1
        subst hmx0
        have hb := run_bounds (P := cx.P) (w := w) (cap := x.size) (m := x.size) h hlo hhi hmx false rfl hh' hl (Nat.le_refl _) h2 h3 hno
        have hu := run_underlying (ti.real (d := .string) hd rfl) w
        simp only [Option.map_none] at hb
        simp [Instr.sliceAt, Instr.slice, hu, SV.val, SL.val, hb]
      · exact hp.elim
    · exact hp.elim
  · exact hp.elim

theorem add_add' (a : Addr) (i j : Nat) : (a.add i).add j = a.add (i + j) := by
  unfold Addr.add
  by_cases hi : i = 0 <;> by_cases hj : j = 0 <;> simp [hi, hj, Nat.add_assoc]

theorem fawp_sound (g : Good cx) {t : TypeId} {s : SV} (hs : s.lt n) {f : Nat} (hp : fawp cx t s f kk) :
    ∃ r, SV.lt n r ∧ kk r ∧ ∀ w, (Instr.fieldAt t (s.val β) f).run cx.P w = .ok (r.val β) w := by
  unfold fawp at hp
  split at hp
  · rename_i i hi
    have ti := g.ti hi
    split at hp
    · rename_i hd
      obtain ⟨fs, hst, hfo⟩ := ti.struct hd
      split at hp
      · rename_i off size hf
        have hff := ti.fields
        rw [hfo] at hff
        rw [nth_eq] at hf
        have hfm : (i.fields.map (fun q => (q.1, some q.2)))[f]? = some (off, some size) := by simp [hf]
        rw [← hff] at hfm
        simp only [List.getElem?_map, Option.map_eq_some_iff, Prod.mk.injEq] at hfm
        obtain ⟨fd, hfd, rfl, x, hx, hxs⟩ := hfm
        have hfd' : fs[f]? = some fd := by simpa using hfd
        split at hp
        · rename_i hz
          have hne : ¬ size = 0 := by intro q; subst q; cases hz
          have place : ∀ (ad : Addr) (w : World), (fieldPlace ad fd).run cx.P w = .ok (ad.add fd.offset) w := fun ad w => by
            have : (sizeOf fd.type).run cx.P w = .ok size w := by simp [sizeOf, typeInfo, hx, hxs]
            simp [fieldPlace, this, hne]
          split at hp
          · rename_i id o
            refine ⟨.c (.p id (o + fd.offset)), hs, hp, fun w => ?_⟩
            have hu := run_underlying hst w
            simp [Instr.fieldAt, hu, hfd', SV.val, SL.val, Instr.sureAddr, place, add_none]
          · rename_i ad
            refine ⟨.c (.v _), trivial, hp, fun w => ?_⟩
            have hu := run_underlying hst w
            simp [Instr.fieldAt, hu, hfd', SV.val, SL.val, Instr.sureAddr, place]
          · exact hp.elim
        · exact hp.elim
      · exact hp.elim
    · exact hp.elim
  · exact hp.elim

theorem ixwp_sound (g : Good cx) {t : TypeId} {s v : SV} (hs : s.lt n) (hp : ixwp cx t s v kk) :
    ∃ r, SV.lt n r ∧ kk r ∧ ∀ w, (Instr.indexAt t (s.val β) (v.val β)).run cx.P w = .ok (r.val β) w := by
  unfold ixwp at hp
  split at hp
  · rename_i i hi
    have ti := g.ti hi
    split at hp
    · rename_i e A m c k x hd
      split at hp
      · rename_i ie hie
        have tie := g.ti hie
        obtain ⟨ad, j, rfl, rfl, hj, hk⟩ := hp
        refine ⟨.c (.v _), trivial, hk, fun w => ?_⟩
        have hu := run_underlying (ti.real (d := .slice _) hd rfl) w
        simp [Instr.indexAt, asIntOf, hu, SV.val, SL.val, tie.run_size, hj]
      · exact hp.elim
    · rename_i m e id o k x hd
      split at hp
      · rename_i ie hie
        have tie := g.ti hie
        obtain ⟨j, rfl, hj, hk⟩ := hp
        refine ⟨.c (.p id (o + j * ie.size)), hs, hk, fun w => ?_⟩
        have hu := run_underlying (ti.real (d := .array _ _) hd rfl) w
        simp [Instr.indexAt, asIntOf, hu, SV.val, SL.val, tie.run_size, hj, Instr.sureAddr, add_none]
      · exact hp.elim
    · rename_i m e ad k x hd
      split at hp
      · rename_i ie hie
        have tie := g.ti hie
        obtain ⟨j, rfl, hj, hk⟩ := hp
        refine ⟨.c (.v _), trivial, hk, fun w => ?_⟩
        have hu := run_underlying (ti.real (d := .array _ _) hd rfl) w
        simp [Instr.indexAt, asIntOf, hu, SV.val, SL.val, tie.run_size, hj, Instr.sureAddr]
      · exact hp.elim
    · exact hp.elim
  · exact hp.elim

theorem ivwp_sound (g : Good cx) {t : TypeId} {s v : SV} (hs : s.lt n) (hp : ivwp cx t s v kk) :
    ∃ r, SV.lt n r ∧ kk r ∧ ∀ w, (Instr.index t (s.val β) (v.val β)).run cx.P w = .ok (r.val β) w := by
  unfold ivwp at hp
  split at hp
  · rename_i i hi
    have ti := g.ti hi
    split at hp
    · rename_i x k y hd
      obtain ⟨j, b, rfl, hb, hk⟩ := hp
      refine ⟨.c (.v _), trivial, hk, fun w => ?_⟩
      have hu := run_underlying (ti.real (d := .string) hd rfl) w
      have hb' : x[j]? = some b := by
        have hlt : j < x.size := by have := (List.getElem?_eq_some_iff.1 hb).1; simpa using this
        have h2 := (List.getElem?_eq_some_iff.1 hb).2
        rw [getElem?_pos x j hlt]
        exact congrArg some (by rw [← h2]; rfl)
      simp [Instr.index, asIntOf, hu, SV.val, SL.val, hb', byte]
    · rename_i m e xs k y hd
      split at hp
      · rename_i ie hie
        have tie := g.ti hie
        split at hp
        · rename_i hag
          obtain ⟨j, z, rfl, hj, hz, hk⟩ := hp
          refine ⟨.c z, hs z (List.mem_of_getElem? hz), hk, fun w => ?_⟩
          have hu := run_underlying (ti.real (d := .array _ _) hd rfl) w
          simp [Instr.index, asIntOf, hu, SV.val, SL.val, tie.run_size, hj, part, tie.run_agg, hag, hz]
        · exact hp.elim
      · exact hp.elim
    · exact hp.elim
  · exact hp.elim

theorem exwp_sound {s : SV} {ix : Nat} (hp : exwp s ix kk) : ∃ r, SV.lt n r ∧ kk r ∧ ∀ w, (Instr.extract (s.val β) ix).run cx.P w = .ok (r.val β) w := by
  unfold exwp at hp
  split at hp
  · rename_i vs
    split at hp
    · rename_i x hx
      refine ⟨ofValue x, ofValue_lt _ _, hp, fun w => ?_⟩
      rw [nth_eq] at hx
      have : vs[ix]? = some x := by simpa using hx
      rw [ofValue_val]
      simp [Instr.extract, SV.val, SL.val, this]
    · exact hp.elim
  · exact hp.elim

theorem fvwp_sound (g : Good cx) {t : TypeId} {s : SV} (hs : s.lt n) {f : Nat} (hp : fvwp cx t s f kk) :
    ∃ r, SV.lt n r ∧ kk r ∧ ∀ w, (Instr.field t (s.val β) f).run cx.P w = .ok (r.val β) w := by
  unfold fvwp at hp
  split at hp
  · rename_i i hi
    have ti := g.ti hi
    split at hp
    · rename_i xs off size hd hf
      obtain ⟨fs, hst, hfo⟩ := ti.struct hd
      split at hp
      · rename_i fty hfd0
        have hff := ti.fields
        rw [hfo] at hff
        have hft := ti.ftys
        rw [hfo] at hft
        rw [nth_eq] at hf hfd0
        have hfm : (i.fields.map (fun q => (q.1, some q.2)))[f]? = some (off, some size) := by simp [hf]
        rw [← hff] at hfm
        simp only [List.getElem?_map, Option.map_eq_some_iff, Prod.mk.injEq] at hfm
        obtain ⟨fd', hfd, rfl, x, hx, hxs⟩ := hfm
        rw [← hft, List.getElem?_map, hfd] at hfd0
        obtain rfl := Option.some.inj hfd0
        have hfd' : fs[f]? = some fd' := by simpa using hfd
        split at hp
        · rename_i ig hig
          have tig := g.ti hig
          split at hp
          · rename_i hag
            split at hp
            · rename_i z hz
              rw [nth_eq] at hz
              refine ⟨.c z, hs z (List.mem_of_getElem? hz), hp, fun w => ?_⟩
              have hu := run_underlying hst w
              simp [Instr.field, hu, hfd', SV.val, asAgg, part, tig.run_agg, hag, hz]
            · exact hp.elim
          · rename_i hag
            split at hp
            · rename_i zs hz
              obtain ⟨h1, h2⟩ := takeAt_spec _ _ _ _ hz
              refine ⟨.agg zs, fun z hzm => ?_, hp, fun w => ?_⟩
              · obtain ⟨j, hj⟩ := List.getElem?_of_mem hzm
                exact hs z (List.mem_of_getElem? (h2 j z hj))
              · have hu := run_underlying hst w
                have hsz : (sizeOf fd'.type).run cx.P w = .ok size w := by simp [sizeOf, typeInfo, hx, hxs]
                have hex : ((xs.map (SL.val β)).drop fd'.offset).take size = zs.map (SL.val β) := by
                  refine List.ext_getElem? fun j => ?_
                  rw [List.getElem?_take]
                  split
                  · rename_i hjs
                    rw [List.getElem?_drop, List.getElem?_map, List.getElem?_map]
                    have hjl : j < zs.length := by omega
                    rw [List.getElem?_eq_getElem hjl]
                    rw [h2 j zs[j] (List.getElem?_eq_getElem hjl)]
                  · rw [List.getElem?_eq_none]; simp; omega
                simp [Instr.field, hu, hfd', SV.val, asAgg, part, tig.run_agg, hag, hsz, hex]
            · exact hp.elim
        · exact hp.elim
      · exact hp.elim
    · exact hp.elim
  · exact hp.elim

theorem flat_cells {s : SV} {ys : List SL} (h : flat s = some ys) (β : Va) : (s.val β).cells.toList = ys.map (SL.val β) := by
  unfold flat at h
  split at h
  · obtain rfl := Option.some.inj h; rfl
  · rename_i x
    split at h
    · cases h
    · cases h
    · rename_i hna hnt
      obtain rfl := Option.some.inj h
      cases x <;> first | rfl | exact (hna _ rfl).elim
  · obtain rfl := Option.some.inj h; simp [SV.val, Value.cells]
  · obtain rfl := Option.some.inj h; simp [SV.val, Value.cells, SL.val]
  · cases h
theorem flat_lt {s : SV} {ys : List SL} (h : flat s = some ys) {n : Nat} (hs : s.lt n) : ∀ y ∈ ys, y.lt n := by
  unfold flat at h
  split at h
  · obtain rfl := Option.some.inj h; intro y hy; simp at hy; subst hy; exact hs
  · split at h
    · cases h
    · cases h
    · obtain rfl := Option.some.inj h; intro y hy; simp at hy; subst hy; trivial
  · obtain rfl := Option.some.inj h; exact hs
  · obtain rfl := Option.some.inj h; intro y hy; simp at hy; subst hy; trivial
  · cases h

theorem foldl_putAll : ∀ (ys : List Value) (k : Nat) (cs : Array Value) (off : Nat), (ys.zipIdx k).foldl (fun cs (q : Value × Nat) => cs.setIfInBounds (off + q.2) q.1) cs = (putAll cs.toList (off + k) ys).toArray
  | [], k, cs, off => by simp [putAll]
  | y :: ys, k, cs, off => by
    rw [List.zipIdx_cons, List.foldl_cons, foldl_putAll ys (k + 1), putAll, putAt_eq]
    simp [Nat.add_assoc]
theorem fillwp_sound {env : Env} (h : Inv cx β n env H F a u) {fields : List (Nat × Nat)} {kk : List SL → Prop} : ∀ (parts : List (Nat × Operand)) (cs : List SL), (∀ x ∈ cs, x.lt n) → fillwp env fields cs parts kk →
    ∃ r : List SL, (∀ x ∈ r, x.lt n) ∧ kk r ∧ Instr.fill (fields.toArray[·]?) (cs.map (SL.val β)).toArray (parts.map fun q => (q.1, a.eval q.2)) = some (r.map (SL.val β)).toArray
  | [], cs, hc, hp => ⟨cs, hc, hp, rfl⟩
  | (i, x) :: r, cs, hc, hp => by
    simp only [fillwp] at hp
    split at hp
    · rename_i off size s hf he
      split at hp
      · rename_i ys hy
        split at hp
        · rename_i h1 h2
          have h1' : ys.length = size := Nat.eq_of_beq_eq_true h1
          have h2' : off + ys.length ≤ cs.length := Nat.le_of_ble_eq_true h2
          obtain ⟨hev, hlt⟩ := h.ev he
          have hcl := flat_cells hy β
          have hc' : ∀ x ∈ putAll cs off ys, x.lt n := by
            have key : ∀ (ys l : List SL) (o : Nat), (∀ x ∈ l, x.lt n) → (∀ x ∈ ys, x.lt n) → ∀ x ∈ putAll l o ys, x.lt n := by
              intro ys
              induction ys with
              | nil => intro l o hl _; exact hl
              | cons y ys ih =>
                intro l o hl hys
                refine ih _ _ (fun x hx => ?_) (fun x hx => hys x (List.mem_cons_of_mem _ hx))
                rw [putAt_eq] at hx
                rcases List.mem_or_eq_of_mem_set hx with hx | rfl
                · exact hl x hx
                · exact hys _ List.mem_cons_self
            exact key ys cs off hc (flat_lt hy hlt)
          obtain ⟨r', hr1, hr2, hr3⟩ := fillwp_sound h r (putAll cs off ys) hc' hp
          refine ⟨r', hr1, hr2, ?_⟩
          have hsz : (s.val β).cells.size = ys.length := by rw [← Array.length_toList, hcl, List.length_map]
          rw [nth_eq] at hf
          have hf' : fields.toArray[i]? = some (off, size) := by simpa using hf
          simp only [List.map_cons, Instr.fill, hf', hev]
          rw [if_neg (by simp only [hsz, List.size_toArray, List.length_map, ne_eq, Bool.or_eq_true, decide_eq_true_eq]; omega)]
          rw [← hr3]
          congr 1
          have h3 := foldl_putAll ((s.val β).cells.toList) 0 (cs.map (SL.val β)).toArray off
          rw [map_putAll]
          rw [hcl] at h3
          simp only [Nat.add_zero] at h3
          rw [← h3, ← hcl, ← Array.foldl_toList, Array.toList_zipIdx]
        · exact hp.elim
      · exact hp.elim
    · exact hp.elim

theorem places_get (size : Nat) : ∀ (k i j : Nat), j < k → (places size i k)[j]? = some ((i + j) * size, size)
  | 0, _, _, h => by omega
  | k + 1, i, 0, _ => by simp [places]
  | k + 1, i, j + 1, h => by
    simp only [places, List.getElem?_cons_succ]
    rw [places_get size k (i + 1) j (by omega), show i + 1 + j = i + (j + 1) by omega]
theorem places_none (size : Nat) : ∀ (k i j : Nat), k ≤ j → (places size i k)[j]? = none
  | 0, _, _, _ => by simp [places]
  | k + 1, i, 0, h => by omega
  | k + 1, i, j + 1, h => by
    simp only [places, List.getElem?_cons_succ]
    exact places_none size k (i + 1) j (by omega)
theorem fill_mono {place place' : Nat → Option (Nat × Nat)} (hpl : ∀ i q, place i = some q → place' i = some q) : ∀ (parts : List (Nat × Value)) (cs r : Array Value), Instr.fill place cs parts = some r → Instr.fill place' cs parts = some r
  | [], cs, r, h => h
  | (i, v) :: rest, cs, r, h => by
    simp only [Instr.fill] at h ⊢
    cases hq : place i with
    | none => rw [hq] at h; cases h
    | some q =>
      rw [hq] at h
      rw [hpl i q hq]
      obtain ⟨off, size⟩ := q
      simp only at h ⊢
      split
      · rename_i hc; rw [if_pos hc] at h; cases h
      · rename_i hc; rw [if_neg hc] at h; exact fill_mono hpl rest _ r h

theorem buwp_sound (g : Good cx) (h : Inv cx β n env H F a u) {t : TypeId} {parts : Array (Nat × Operand)} (hp : buwp cx env t parts kk) :
    ∃ r, SV.lt n r ∧ kk r ∧ ∀ w, (Instr.build t (parts.map fun q => (q.1, a.eval q.2))).run cx.P w = .ok (r.val β) w := by
  unfold buwp at hp
  split at hp
  · rename_i i hi
    have ti := g.ti hi
    split at hp
    · rename_i hd
      obtain ⟨fs, hst, hfo⟩ := ti.struct hd
      obtain ⟨r, h1, h2, h3⟩ := fillwp_sound (β := β) h parts.toList (i.zero.map SL.v) (fun x hx => by obtain ⟨z, _, rfl⟩ := List.mem_map.1 hx; trivial) hp
      refine ⟨.agg r, h1, h2, fun w => ?_⟩
      obtain ⟨z, hz, hzc⟩ := ti.run_zero w
      have hu := run_underlying hst w
      have hff := ti.fields
      rw [hfo] at hff
      have hplaces : (fs.mapM fun f => do pure (f.offset, ← sizeOf f.type) : Sem (Array (Nat × Nat))).run cx.P w = .ok i.fields.toArray w := by
        have key : ∀ (l : List Field) (m : List (Nat × Nat)), l.map (fun f => (f.offset, cx.P.info? f.type |>.map (·.size))) = m.map (fun q => (q.1, some q.2)) →
            (l.mapM fun f => do pure (f.offset, ← sizeOf f.type) : Sem (List (Nat × Nat))).run cx.P w = .ok m w := by
          intro l
          induction l with
          | nil => intro m hm; cases m <;> simp at hm; simp
          | cons f l ih =>
            intro m hm
            cases m with
            | nil => simp at hm
            | cons q m =>
              simp only [List.map_cons, List.cons.injEq, Prod.mk.injEq, Option.map_eq_some_iff] at hm
              obtain ⟨⟨h1, x, hx, hxs⟩, hm⟩ := hm
              have hs : (sizeOf f.type).run cx.P w = .ok q.2 w := by simp [sizeOf, typeInfo, hx, hxs]
              simp only [List.mapM_cons, Sem.run_bind, hs, Result.andThen_ok, ih m hm, Sem.run_pure, h1]
        have h4 := key fs.toList i.fields hff
        rw [Array.mapM_eq_mapM_toList]
        simp only [map_eq_pure_bind, Sem.run_bind, h4, Result.andThen_ok, Sem.run_pure]
      have hcs : z.cells = ((i.zero.map SL.v).map (SL.val β)).toArray := by
        apply Array.ext'
        rw [hzc]
        simp [Function.comp_def, SL.val]
      simp only [Instr.build, Sem.run_bind, hz, Result.andThen_ok, hu, hplaces, hcs, Array.toList_map, SV.val]
      rw [h3]
      rfl
    · rename_i m e hd
      split at hp
      · rename_i ie hie
        have tie := g.ti hie
        obtain ⟨r, h1, h2, h3⟩ := fillwp_sound (β := β) h parts.toList (i.zero.map SL.v) (fun x hx => by obtain ⟨z, _, rfl⟩ := List.mem_map.1 hx; trivial) hp
        refine ⟨.agg r, h1, h2, fun w => ?_⟩
        obtain ⟨z, hz, hzc⟩ := ti.run_zero w
        have hu := run_underlying (ti.real (d := .array _ _) hd rfl) w
        have hcs : z.cells = ((i.zero.map SL.v).map (SL.val β)).toArray := by
          apply Array.ext'
          rw [hzc]
          simp [Function.comp_def, SL.val]
        have h4 : Instr.fill (fun i => some (i * ie.size, ie.size)) ((i.zero.map SL.v).map (SL.val β)).toArray (parts.toList.map fun q => (q.1, a.eval q.2)) = some (r.map (SL.val β)).toArray := by
          refine fill_mono (fun j q hq => ?_) _ _ _ h3
          rcases Nat.lt_or_ge j m with hlt | hge
          · have := places_get ie.size m 0 j hlt
            simp only [Nat.zero_add] at this
            simp only [List.getElem?_toArray, this] at hq
            exact hq
          · have := places_none ie.size m 0 j hge
            simp only [List.getElem?_toArray, this] at hq
            cases hq
        simp only [Instr.build, Sem.run_bind, hz, Result.andThen_ok, hu, tie.run_size, hcs, Array.toList_map, SV.val]
        rw [h4]
        rfl
      · exact hp.elim
    · exact hp.elim
  · exact hp.elim
end
end Go.Proofs.YthkjfepbmnabkaaDoor.Sx
