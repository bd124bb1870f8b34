/- Rows of the call's own (make, append, literals), text to bytes, calls. -/
import Derived.Test.YthkjfepbmnabkaaDoorSxFx
namespace Go.Proofs.YthkjfepbmnabkaaDoor.Sx
open Go

/-- A growable row that nobody else knows. -/
def rowF (e : TypeId) (size : Nat) (v : Value) (k : Nat) (xs : List Value) : Fact where
  own := true
  D := fun g => v.ownBlock = some g
  p := fun w => w.ownsRow 0 e size v k xs
  st := fun w w' hs h => by
    refine ⟨h.1, ?_⟩
    rcases h.2 with h2 | ⟨g, cap, cur, rfl, hb, hg, r⟩
    · exact .inl h2
    · exact .inr ⟨g, cap, cur, rfl, hb, by rw [hs g rfl]; exact hg, r⟩
/-- A slice that reads as cells. -/
def rdF (size : Nat) (A : Option Addr) (k : Nat) (xs : List Value) : Fact where
  own := false
  D := fun g => 0 < k * size ∧ ∃ ad, A = some ad ∧ ad.block = g
  p := fun w => Rd size A k xs w
  st := fun w w' hs h => by
    refine ⟨h.1, fun hk => ?_⟩
    obtain ⟨ad, e, hc⟩ := h.2 hk
    refine ⟨ad, e, fun j u hu => ?_⟩
    rw [← hc j u hu]
    have hb : (ad.add j).block = ad.block := by unfold Addr.add; split <;> rfl
    refine World.cell?_of_block ?_
    rw [hb]
    have : j < xs.length := (List.getElem?_eq_some_iff.1 hu).1
    exact hs _ ⟨by rw [← h.1]; omega, ad, e, rfl⟩
/-- A block that is known whole. -/
def bkF (b : Nat) (ty : TypeId) (cs : List Value) : Fact where
  own := true
  D := fun g => g = b
  p := fun w => w.heap[b]? = some (.cells cs.toArray ty (0, 0))
  st := fun w w' hs h => by rw [hs b rfl]; exact h

theorem Chg.of_grown {w w' : World} {row : Option Nat} (h : w.grownBy w' row) : Chg (fun k => row = some k) w w' :=
  ⟨h.os, h.tape, h.output, h.size, fun k hk hn => h.block k hk (fun q => hn q.symm)⟩

theorem row_rd {w : World} {e : TypeId} {size : Nat} {A : Option Addr} {k c : Nat} {xs : List Value} (h : w.ownsRow 0 e size (.slice A k c) k xs) : Rd size A k xs w := by
  refine ⟨h.1, fun hk => ?_⟩
  rcases h.2 with ⟨he, h0⟩ | ⟨g, cap, cur, he, _⟩
  · omega
  · have hA : A = some ⟨g, 0, none⟩ := by injection he
    subst hA
    exact ⟨_, rfl, h.cells (g := g) rfl⟩

section
variable {cx : Cx} {β : Va} {n : Nat} {env : Env} {H : List Bk} {F : List Fact} {a : Act} {w w' : World}

/-! ### append -/
theorem run_append_none {P : Program} (w : World) (t ty e : TypeId) (i : TypeInfo) (ht : P.underlying t = some (.slice e)) (hi : P.info? e = some i)
    {v : Value} {k : Nat} {xs : List Value} {size : Nat} (hown : w.ownsRow 0 e size v k xs) (c : Nat) : (Builtin.append_ #[t, t] ty #[v, .slice none 0 c]).run P w = .ok v w := by
  rcases hown.2 with ⟨rfl, rfl⟩ | ⟨g, cap, cur, rfl, _, _, hnc, _⟩
  · simp [Builtin.append_, run_underlying ht, sizeOf, typeInfo, hi, Builtin.lenOf, Builtin.firstCells]
  · simp [Builtin.append_, run_underlying ht, sizeOf, typeInfo, hi, Builtin.lenOf, Builtin.firstCells, hnc, storeCells]

theorem run_append_rd {P : Program} (w : World) {t ty e : TypeId} {ie : TI} (ht : P.underlying t = some (.slice e)) (tie : TiOk P e ie) (hsz : 0 < ie.size)
    {v : Value} {k : Nat} {xs : List Value} (hown : w.ownsRow 0 e ie.size v k xs) {A : Option Addr} {m c : Nat} {news : List Value} (hr : Rd ie.size A m news w) (h1 : ∀ u ∈ news, u.oneCell' = true)
    (h63 : k + m ≤ maxLen) (hbytes : (k + m) * ie.bytes ≤ 140737488355328) :
    ∃ v' w', (Builtin.append_ #[t, t] ty #[v, .slice A m c]).run P w = .ok v' w' ∧ w'.ownsRow 0 e ie.size v' (k + m) (xs ++ news) ∧ w.grownBy w' v.ownBlock ∧
      (v' = .slice none 0 0 ↔ v = .slice none 0 0 ∧ m = 0) ∧ (v'.ownBlock = v.ownBlock ∨ v'.ownBlock = some w.heap.size) := by
  obtain ⟨i, z, hi, hz, hzc, his, hib⟩ := tie.row
  have hzs : z.cells.size = ie.size := by rw [← Array.length_toList, hzc, tie.len]
  have hnil : ∀ A : Option Addr, m = 0 → news = [] := fun _ h0 => List.eq_nil_of_length_eq_zero (by rw [hr.1, h0, Nat.zero_mul])
  cases A with
  | none =>
    have hm : m = 0 := by
      rcases Nat.eq_zero_or_pos m with h0 | h0
      · exact h0
      · obtain ⟨ad, q, _⟩ := hr.2 h0; cases q
    subst hm
    have hn := hnil none rfl
    subst hn
    exact ⟨v, w, run_append_none w t ty e i ht hi hown c, by simpa using hown, World.grownBy.refl w _, by simp, .inl rfl⟩
  | some ad =>
    have hcells : ∀ j u, news[j]? = some u → w.cell? (ad.add j) = some u := by
      intro j u hu
      rcases Nat.eq_zero_or_pos m with h0 | h0
      · rw [hnil none h0] at hu; simp at hu
      · obtain ⟨ad', q, hc⟩ := hr.2 h0
        obtain rfl := Option.some.inj q
        exact hc j u hu
    exact run_append_own_at (P := P) w 0 t ty e i z ie.size ie.bytes ht hi hz his hib hzs hsz v k xs hown ad m c news hr.1 hcells h1 h63 hbytes (Nat.zero_le _)

/-- What a row's value looks like. -/
theorem row_form {w : World} {e : TypeId} {size : Nat} {v : Value} {k : Nat} {xs : List Value} (h : w.ownsRow 0 e size v k xs) : ∃ A c, v = .slice A k c ∧ k ≤ c ∧ c ≤ maxLen := by
  rcases h.2 with ⟨rfl, rfl⟩ | ⟨g, cap, cur, rfl, _, _, h1, h2, _⟩
  · exact ⟨none, 0, rfl, Nat.le_refl _, Nat.zero_le _⟩
  · exact ⟨_, cap, rfl, h1, h2⟩

def apwp (cx : Cx) (n : Nat) (env : Env) (H : List Bk) (F : List Fact) (dst : Option Tmp) (c : Call) (K : KT) : Prop :=
  match c.args.toList, c.argTypes.toList with
  | [x, y], [t, t'] => match Nat.beq t t', lk cx.tt t, ev env x, ev env y with
    | true, some i, some (.c (.v v)), some (.c (.v (.slice A m cp))) => match i.desc with
      | .slice e => match lk cx.tt e with
        | some ie => match nonzero ie.size with
          | true => ∃ (j k r : Nat) (xs ys zs : List Value), nth F j = some (rowF e ie.size v k xs) ∧ (∀ β w, Sat cx β n H F w → Rd ie.size A m ys w) ∧ (∀ u ∈ ys, u.oneCell' = true) ∧ k + m = r ∧ xs ++ ys = zs ∧ r ≤ maxLen ∧ r * ie.bytes ≤ 140737488355328 ∧
              ∀ A' c', r ≤ c' → c' ≤ maxLen → (A' = none → v = .slice none 0 0 ∧ m = 0) →
                put cx.N n env H (putAt F j (rowF e ie.size (.slice A' r c') r zs)) dst (.c (.v (.slice A' r c'))) K
          | false => False
        | none => False
      | _ => False
    | _, _, _, _ => False
  | _, _ => False

theorem run_call_w {P : Program} (a : Act) (c : Call) (b : Builtin) (hb : c.callee = .builtin b) (ty : TypeId) (w w' : World) (v : Value)
    (h : (builtin b c.argTypes ty (c.args.map fun | .const _ => true | _ => false) (c.args.map a.eval)).run P w = .ok (.value v) w') :
    (do let d ← resolve a.eval c ty; invoke d.target d.args : Sem Next).run P w = .ok (.value v) w' := by
  simp only [resolve, hb, Sem.run_bind, Sem.run_pure, Result.andThen_ok, invoke]
  exact h

theorem apwp_sound (g : Good cx) (h : Inv cx β n env H F a w) {o : Oper} {c : Call} (ho : o.op = .call c) (hb : c.callee = .builtin .append) {K : KT} (hp : apwp cx n env H F o.dst c K) {K' : Act → World → Prop} (hk : ∀ a w, AfterE cx β n K a w → K' a w) {Q : Exit → Act → World → Prop} : o.wpIn cx.fence 0 cx.P a w K' Q := by
  unfold apwp at hp
  split at hp
  · rename_i x y t t' hxs hts
    split at hp
    · rename_i i v A m cp htt hi hx hy
      obtain rfl := Nat.eq_of_beq_eq_true htt
      have ti := g.ti hi
      split at hp
      · rename_i e hd
        split at hp
        · rename_i ie hie
          have tie := g.ti hie
          split at hp
          · rename_i hz
            have hsz : 0 < ie.size := by
              cases hq : ie.size with
              | zero => rw [hq] at hz; cases hz
              | succ _ => omega
            obtain ⟨j, k, r, xs, ys, zs, hj, hrd, h1, rfl, rfl, h63, hby, hK⟩ := hp
            have hmem : rowF e ie.size v k xs ∈ F := List.mem_of_getElem? (by rw [← nth_eq]; exact hj)
            have hown : w.ownsRow 0 e ie.size v k xs := h.sat.fact _ hmem
            obtain ⟨v', w', e1, e2, e3, e4, e5⟩ := run_append_rd (P := cx.P) (t := t) (ty := o.type) w (ti.real (d := .slice _) hd rfl) tie hsz hown (hrd β w h.sat) (c := cp) h1 h63 hby
            obtain ⟨A', c', rfl, h6, h7⟩ := row_form e2
            have eargs : c.args.map a.eval = #[v, .slice A m cp] := by
              apply Array.ext'
              rw [Array.toList_map, hxs]
              simp [(h.ev hx).1, (h.ev hy).1, SV.val, SL.val]
            have etys : c.argTypes = #[t, t] := by
              apply Array.ext'
              rw [hts]
            have hput := hK A' c' h6 h7 (fun q => by
              subst q
              have h8 : k + m = 0 := by
                rcases e2.2 with ⟨_, q⟩ | ⟨g, cap, cur, q, _⟩
                · exact q
                · cases q
              have h9 : c' = 0 := by
                rcases e2.2 with ⟨q, _⟩ | ⟨g, cap, cur, q, _⟩
                · injection q
                · cases q
              subst h9
              exact e4.1 (by rw [h8]))
            have hs : Sat cx β n H (putAt F j (rowF e ie.size (.slice A' (k + m) c') (k + m) (xs ++ ys))) w' := by
              refine h.sat.upd hj rfl (Chg.of_grown e3) e2 (fun q hq => ?_)
              rcases e5 with e5 | e5
              · exact .inl (e5.symm.trans hq)
              · have hq' : Value.ownBlock (.slice A' (k + m) c') = some q := hq
                have : some q = some w.heap.size := by rw [← hq', e5]
                have hq2 : q = w.heap.size := Option.some.inj this
                have := e2.lt q hq
                exact .inr ⟨by omega, this.2⟩
            refine wp_val (v := .slice A' (k + m) c') (w' := w') ?_ (notDefer ho (fun _ q => by cases q)) (hk _ _ (put_sound (s := .c (.v (.slice A' (k + m) c'))) (h.mem hs) trivial hput))
            simp only [execOp, ho]
            refine run_call_w a c .append hb o.type w w' _ ?_
            rw [eargs, etys]
            simp [builtin, e1]
          · exact hp.elim
        · exact hp.elim
      · exact hp.elim
    · exact hp.elim
  · exact hp.elim

/-! ### new rows -/
def repl {α : Type} (zs : List α) : Nat → List α
  | 0 => []
  | k + 1 => zs ++ repl zs k
def allV : List SL → Option (List Value)
  | [] => some []
  | .v x :: r => match allV r with | some l => some (x :: l) | none => none
  | .p _ _ :: _ => none
def bswp (cx : Cx) (n : Nat) (env : Env) (H : List Bk) (F : List Fact) (dst : Option Tmp) (t : TypeId) (len : Nat) (parts : Array (Nat × Operand)) (K : KT) : Prop :=
  match lk cx.tt t with
  | some i => match i.desc with
    | .slice e => match lk cx.tt e with
      | some ie => match Nat.ble (len * ie.size) 16777216, Nat.ble len 16777216 with
        | true, true => fillwp env (places ie.size 0 len) ((repl ie.zero len).map SL.v) parts.toList fun cs => match allV cs with
          | some vs => ∀ b, put cx.N n env H (rowF e ie.size (.slice (some ⟨b, 0, none⟩) len len) len vs :: F) dst (.c (.v (.slice (some ⟨b, 0, none⟩) len len))) K
          | none => False
        | _, _ => False
      | none => False
    | _ => False
  | none => False

theorem allV_spec : ∀ {cs : List SL} {vs : List Value}, allV cs = some vs → cs = vs.map SL.v
  | [], vs, h => by simp only [allV, Option.some.injEq] at h; subst h; rfl
  | .v x :: r, vs, h => by
    simp only [allV] at h
    split at h
    · rename_i l hl
      obtain rfl := Option.some.inj h
      rw [allV_spec hl]; rfl
    · cases h
  | .p _ _ :: _, _, h => by cases h
theorem repl_length {α : Type} (zs : List α) : ∀ k, (repl zs k).length = k * zs.length
  | 0 => by simp [repl]
  | k + 1 => by simp [repl, repl_length zs k, Nat.succ_mul, Nat.add_comm]
theorem repl_get {α : Type} (zs : List α) : ∀ (k j : Nat), j < k * zs.length → (repl zs k)[j]? = zs[j % zs.length]?
  | 0, j, h => by simp at h
  | k + 1, j, h => by
    simp only [repl]
    by_cases hj : j < zs.length
    · rw [List.getElem?_append_left hj, Nat.mod_eq_of_lt hj]
    · rw [List.getElem?_append_right (by omega), repl_get zs k _ (by rw [Nat.succ_mul] at h; omega)]
      congr 1
      conv => rhs; rw [show j = (j - zs.length) + zs.length by omega, Nat.add_mod_right]
theorem repl_array (z : Array Value) (k : Nat) : ((Array.range (k * z.size)).map (fun x => z[x % z.size]!)).toList = repl z.toList k := by
  refine List.ext_getElem? fun j => ?_
  by_cases hj : j < k * z.size
  · rw [repl_get z.toList k j (by simpa using hj)]
    have hpos : 0 < z.size := by
      rcases Nat.eq_zero_or_pos z.size with h0 | h0
      · rw [h0] at hj; simp at hj
      · exact h0
    have hm : j % z.size < z.size := Nat.mod_lt _ hpos
    simp [List.getElem?_range hj, hm]
  · rw [List.getElem?_eq_none (by simp; omega), List.getElem?_eq_none (by rw [repl_length]; simp; omega)]
theorem Chg.alloc (w : World) (o : Obj) : Chg None_ w (w.alloc o) := ⟨rfl, rfl, rfl, by simp, fun k hk _ => RowKit.Below.heap_alloc _ _ _ hk⟩
theorem Chg.drew (w : World) : Chg None_ w w.drew := ⟨rfl, rfl, rfl, Nat.le_refl _, fun _ _ _ => rfl⟩

theorem bswp_sound (g : Good cx) (h : Inv cx β n env H F a w) {o : Oper} {t : TypeId} {len : Nat} {parts : Array (Nat × Operand)} (ho : o.op = .buildSlice t len parts) {K : KT} (hp : bswp cx n env H F o.dst t len parts K) {K' : Act → World → Prop} (hk : ∀ a w, AfterE cx β n K a w → K' a w) {Q : Exit → Act → World → Prop} : o.wpIn cx.fence 0 cx.P a w K' Q := by
  unfold bswp at hp
  split at hp
  · rename_i i hi
    have ti := g.ti hi
    split at hp
    · rename_i e hd
      split at hp
      · rename_i ie hie
        have tie := g.ti hie
        split at hp
        · rename_i hle hle2
          have hle2' : len ≤ 16777216 := Nat.le_of_ble_eq_true hle2
          have hle' : len * ie.size ≤ 16777216 := Nat.le_of_ble_eq_true hle
          obtain ⟨cs, h1, h2, h3⟩ := fillwp_sound (β := β) h parts.toList _ (fun x hx => by obtain ⟨z, _, rfl⟩ := List.mem_map.1 hx; trivial) hp
          split at h2
          · rename_i vs hvs
            have hcs := allV_spec hvs
            subst hcs
            obtain ⟨z, hz, hzc⟩ := tie.run_zero w
            have hzs : z.cells.size = ie.size := by rw [← Array.length_toList, hzc, tie.len]
            have hu := run_underlying (ti.real (d := .slice _) hd rfl) w
            have evs : (vs.map SL.v).map (SL.val β) = vs := by simp [Function.comp_def, SL.val]
            rw [evs] at h3
            have hstart : (((repl ie.zero len).map SL.v).map (SL.val β)).toArray = (Array.range (len * ie.size)).map (fun x => z.cells[x % z.cells.size]!) := by
              apply Array.ext'
              have := repl_array z.cells len
              rw [hzs, hzc] at this
              rw [hzs, this]
              simp [Function.comp_def, SL.val]
            have hfill : Instr.fill (fun i => some (i * ie.size, ie.size)) ((Array.range (len * ie.size)).map (fun x => z.cells[x % z.cells.size]!)) (parts.toList.map fun q => (q.1, a.eval q.2)) = some vs.toArray := by
              rw [← hstart]
              refine fill_mono (fun i q hq => ?_) _ _ _ h3
              rcases Nat.lt_or_ge i len with hlt | hge
              · have := places_get ie.size len 0 i hlt
                simp only [Nat.zero_add] at this
                simp only [List.getElem?_toArray, this] at hq
                exact hq
              · have := places_none ie.size len 0 i hge
                simp only [List.getElem?_toArray, this] at hq
                cases hq
            have hlen : vs.length = len * ie.size := by
              have key : ∀ (parts : List (Nat × Operand)) (cs : List SL) (kk : List SL → Prop), fillwp env (places ie.size 0 len) cs parts kk → ∃ r : List SL, r.length = cs.length ∧ kk r := by
                intro parts
                induction parts with
                | nil => intro cs kk hq; exact ⟨cs, rfl, hq⟩
                | cons q r ih =>
                  obtain ⟨i, x⟩ := q
                  intro cs kk hq
                  simp only [fillwp] at hq
                  split at hq
                  · split at hq
                    · split at hq
                      · obtain ⟨r', h4, h5⟩ := ih _ _ hq
                        exact ⟨r', by rw [h4, length_putAll], h5⟩
                      · exact hq.elim
                    · exact hq.elim
                  · exact hq.elim
              have hsize : ∀ (place : Nat → Option (Nat × Nat)) (parts : List (Nat × Value)) (cs r : Array Value), Instr.fill place cs parts = some r → r.size = cs.size := by
                intro place parts
                induction parts with
                | nil => intro cs r hq; simp only [Instr.fill, Option.some.injEq] at hq; rw [hq]
                | cons q rest ih =>
                  obtain ⟨i, v⟩ := q
                  intro cs r hq
                  simp only [Instr.fill] at hq
                  split at hq
                  · cases hq
                  · split at hq
                    · cases hq
                    · rw [ih _ _ hq]
                      rw [← Array.foldl_toList, Array.toList_zipIdx, foldl_putAll]
                      simp [length_putAll]
              have := hsize _ _ _ _ hfill
              simpa using this
            have hrun : (Instr.buildSlice t len (parts.map fun q => (q.1, a.eval q.2))).run cx.P w = .ok (.slice (some ⟨w.heap.size, 0, none⟩) len len) (w.alloc (.cells vs.toArray e)) := by
              have hgt : ¬ len * ie.size > 2 ^ 24 := by omega
              by_cases h0 : len * ie.size = 0
              · have hvs0 : vs = [] := List.eq_nil_of_length_eq_zero (by rw [hlen, h0])
                subst hvs0
                have hr0 : ∀ f : Nat → Value, (Array.range 0).map f = #[] := fun f => by apply Array.ext'; simp
                have hfill' : Instr.fill (fun i => some (i * ie.size, ie.size)) #[] (parts.toList.map fun q => (q.1, a.eval q.2)) = some #[] := by
                  rw [h0, hr0] at hfill
                  exact hfill
                simp [Instr.buildSlice, hu, tie.run_size, h0, hr0, hfill', newRow]
              · have hfill' := hfill
                simp [Instr.buildSlice, hu, tie.run_size, h0, hgt, hz, hfill', newRow]
            have hs : Sat cx β n H (rowF e ie.size (.slice (some ⟨w.heap.size, 0, none⟩) len len) len vs :: F) (w.alloc (.cells vs.toArray e)) := by
              refine h.sat.add (Chg.alloc w _) _ ?_ (fun k hk => ?_)
              · refine ⟨hlen, .inr ⟨w.heap.size, len, vs.toArray, rfl, Nat.zero_le _, heap_alloc_new w _, Nat.le_refl _, ?_, by simpa using hlen, ?_⟩⟩
                · simp only [maxLen]; omega
                · rw [← hlen]; simp
              · have : k = w.heap.size := by simpa [rowF, Value.ownBlock] using hk.symm
                subst this
                simp
            refine wp_val (v := .slice (some ⟨w.heap.size, 0, none⟩) len len) (w' := w.alloc (.cells vs.toArray e)) ?_ (notDefer ho (fun _ q => by cases q)) (hk _ _ (put_sound (s := .c (.v (.slice (some ⟨w.heap.size, 0, none⟩) len len))) (h.mem hs) trivial (h2 _)))
            simp only [execOp, ho, Sem.run_bind, hrun, Result.andThen_ok, Sem.run_pure]
          · exact h2.elim
        · exact hp.elim
      · exact hp.elim
    · exact hp.elim
  · exact hp.elim
end
end Go.Proofs.YthkjfepbmnabkaaDoor.Sx
