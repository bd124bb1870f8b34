/- make, text to bytes, calls; regions; whole bodies. -/
import Derived.Test.YthkjfepbmnabkaaDoorSxFx2
namespace Go.Proofs.YthkjfepbmnabkaaDoor.Sx
open Go

section
variable {cx : Cx} {β : Va} {n : Nat} {env : Env} {H : List Bk} {F : List Fact} {a : Act} {w w' : World}

theorem maxLen_eq : maxLen = 9223372036854775807 := by decide
theorem repl_take {α : Type} (zs : List α) : ∀ {l c : Nat}, l ≤ c → (repl zs c).take (l * zs.length) = repl zs l
  | 0, c, _ => by simp [repl]
  | l + 1, 0, h => by omega
  | l + 1, c + 1, h => by
    simp only [repl]
    rw [Nat.succ_mul, Nat.add_comm, List.take_length_add_append, repl_take zs (by omega)]

def mkwp (cx : Cx) (n : Nat) (env : Env) (H : List Bk) (F : List Fact) (dst : Option Tmp) (t : TypeId) (x y : Operand) (K : KT) : Prop :=
  match lk cx.tt t, ev env x, ev env y with
  | some i, some (.c (.v (.int _ L))), some (.c (.v (.int _ C))) => match i.desc with
    | .slice e => match lk cx.tt e with
      | some ie => ∃ l c : Nat, L = (l : Int) ∧ C = (c : Int) ∧ l ≤ c ∧ ie.bytes * c ≤ 281474976710656 ∧ c ≤ maxLen ∧
          ∀ b, put cx.N n env H (rowF e ie.size (.slice (some ⟨b, 0, none⟩) l c) l (repl ie.zero l) :: F) dst (.c (.v (.slice (some ⟨b, 0, none⟩) l c))) K
      | none => False
    | _ => False
  | _, _, _ => False

theorem mkwp_sound (g : Good cx) (h : Inv cx β n env H F a w) {o : Oper} {t : TypeId} {x y : Operand} (ho : o.op = .makeSlice t x y) {K : KT} (hp : mkwp cx n env H F o.dst t x y K) {K' : Act → World → Prop} (hk : ∀ a w, AfterE cx β n K a w → K' a w) {Q : Exit → Act → World → Prop} : o.wpIn cx.fence 0 cx.P a w K' Q := by
  unfold mkwp at hp
  split at hp
  · rename_i i kl L kc C hi hx hy
    have ti := g.ti hi
    split at hp
    · rename_i e hd
      split at hp
      · rename_i ie hie
        have tie := g.ti hie
        obtain ⟨l, c, rfl, rfl, h1, h2, h3, hK⟩ := hp
        obtain ⟨r, z, hr, hz, hzc, hrs, hrb⟩ := tie.row
        have hzs : z.cells.size = ie.size := by rw [← Array.length_toList, hzc, tie.len]
        have h5 : (ie.bytes : Int) * (c : Int) ≤ 281474976710656 := by
          have h4 : ((ie.bytes * c : Nat) : Int) ≤ 281474976710656 := by omega
          rwa [Int.natCast_mul] at h4
        have hrun := run_make (P := cx.P) w t e r z (ti.real (d := .slice _) hd rfl) hr hz kl kc l c (by omega) (by omega) (by rw [hrb]; exact h5) (by rw [maxLen_eq] at h3; omega)
        simp only [Int.toNat_natCast, hrs] at hrun
        have hmc : (madeCells z.cells (c * ie.size)).toList = repl ie.zero c := by
          have := repl_array z.cells c
          rw [hzc, hzs] at this
          rw [← this]
          simp only [madeCells, hzs]
        have hs : Sat cx β n H (rowF e ie.size (.slice (some ⟨w.heap.size, 0, none⟩) l c) l (repl ie.zero l) :: F) (w.alloc (.cells (madeCells z.cells (c * ie.size)) e)) := by
          refine h.sat.add (Chg.alloc w _) _ ?_ (fun k hk => ?_)
          · refine ⟨by rw [repl_length, tie.len], .inr ⟨w.heap.size, c, _, rfl, Nat.zero_le _, heap_alloc_new w _, h1, h3, size_madeCells _ _, ?_⟩⟩
            rw [hmc, ← tie.len]
            exact repl_take _ h1
          · have : k = w.heap.size := by simpa [rowF, Value.ownBlock] using hk.symm
            subst this
            simp
        refine wp_val (v := .slice (some ⟨w.heap.size, 0, none⟩) l c) (w' := w.alloc (.cells (madeCells z.cells (c * ie.size)) e)) ?_ (notDefer ho (fun _ q => by cases q)) (hk _ _ (put_sound (s := .c (.v (.slice (some ⟨w.heap.size, 0, none⟩) l c))) (h.mem hs) trivial (hK _)))
        have e1 : a.eval x = .int kl (l : Int) := (h.ev hx).1
        have e2 : a.eval y = .int kc (c : Int) := (h.ev hy).1
        simp only [execOp, ho, e1, e2, Sem.run_bind, hrun, Result.andThen_ok, Sem.run_pure]
      · exact hp.elim
    · exact hp.elim
  · exact hp.elim

/-- The same, on memory of one's own. -/
def rdoF (size : Nat) (A : Option Addr) (k : Nat) (xs : List Value) : Fact := ⟨true, (rdF size A k xs).D, (rdF size A k xs).p, (rdF size A k xs).st⟩
def sbwp (cx : Cx) (n : Nat) (env : Env) (H : List Bk) (F : List Fact) (dst : Option Tmp) (src t : TypeId) (x : Operand) (K : KT) : Prop :=
  match lk cx.tt src, lk cx.tt t, ev env x with
  | some _, some i, some (.c (.v (.string s))) => match i.desc with
    | .slice e => match lk cx.tt e with
      | some ie => match ie.desc with
        | .int .u8 => ∀ b c, s.size ≤ c → (s.size ≤ maxLen → c ≤ maxLen) → put cx.N n env H (rdoF 1 (some ⟨b, 0, none⟩) s.size (s.data.toList.map byte) :: F) dst (.c (.v (.slice (some ⟨b, 0, none⟩) s.size c))) K
        | _ => False
      | none => False
    | _ => False
  | _, _, _ => False
theorem sbwp_sound (g : Good cx) (h : Inv cx β n env H F a w) {o : Oper} {src t : TypeId} {x : Operand} (ho : o.op = .convert src t x) {K : KT} (hp : sbwp cx n env H F o.dst src t x K) {K' : Act → World → Prop} (hk : ∀ a w, AfterE cx β n K a w → K' a w) {Q : Exit → Act → World → Prop} : o.wpIn cx.fence 0 cx.P a w K' Q := by
  unfold sbwp at hp
  split at hp
  · rename_i j i s hj hi hx
    have ti := g.ti hi
    have tj := g.ti hj
    split at hp
    · rename_i e hd
      split at hp
      · rename_i ie hie
        have tie := g.ti hie
        split at hp
        · rename_i hde
          have e1 : a.eval x = .string s := (h.ev hx).1
          obtain ⟨dj, hju, _⟩ := Option.map_eq_some_iff.1 tj.under
          have hrun := Lib.run_convert_string_bytes (P := cx.P) w src t e s hju (ti.real (d := .slice _) hd rfl) (tie.real (d := .int _) hde rfl)
          have hc : Chg None_ w (Lib.bytesWorld w e s) := by
            exact ⟨rfl, rfl, rfl, by rw [Lib.bytesWorld_size]; omega, fun k hk _ => Lib.bytesWorld_at_old w e s k hk⟩
          have hs : Sat cx β n H (rdoF 1 (some ⟨w.heap.size, 0, none⟩) s.size (s.data.toList.map byte) :: F) (Lib.bytesWorld w e s) := by
            refine h.sat.add hc _ ⟨by simp, fun _ => ⟨_, rfl, fun j u hj => ?_⟩⟩ (fun k hk => ?_)
            · rw [add_none, Nat.zero_add]
              have hjl : j < s.size := by have := (List.getElem?_eq_some_iff.1 hj).1; simpa using this
              rw [Lib.bytesWorld_cell w e s j hjl]
              rw [List.getElem?_map] at hj
              obtain ⟨q, hq, rfl⟩ := Option.map_eq_some_iff.1 hj
              simp [byte, List.getD, hq]
            · obtain ⟨_, ad, he, rfl⟩ := hk
              obtain rfl := Option.some.inj he
              rw [Lib.bytesWorld_size]
              simp
          have hcap := grownCap_ge w s.size 0 e
          have hcm := fun hm => grownCap_le_maxLen w s.size 0 e hm
          refine wp_val (v := .slice (some ⟨w.heap.size, 0, none⟩) s.size (grownCap w s.size 0 e)) (w' := Lib.bytesWorld w e s) ?_ (notDefer ho (fun _ q => by cases q)) (hk _ _ (put_sound (s := .c (.v (.slice (some ⟨w.heap.size, 0, none⟩) s.size (grownCap w s.size 0 e)))) (h.mem hs) trivial (hp _ _ hcap hcm)))
          simp only [execOp, ho, e1, Sem.run_bind, hrun, Result.andThen_ok, Sem.run_pure]
        · exact hp.elim
      · exact hp.elim
    · exact hp.elim
  · exact hp.elim

/-! ### maps -/
def mmpwp (cx : Cx) (n : Nat) (env : Env) (H : List Bk) (F : List Fact) (dst : Option Tmp) (K : KT) : Prop :=
  ∀ b, put cx.N n env H (mapF b [] :: F) dst (.c (.v (.map (some b)))) K
theorem mmpwp_sound (h : Inv cx β n env H F a w) {o : Oper} {t : TypeId} (ho : o.op = .makeMap t none) {K : KT} (hp : mmpwp cx n env H F o.dst K) {K' : Act → World → Prop} (hk : ∀ a w, AfterE cx β n K a w → K' a w) {Q : Exit → Act → World → Prop} : o.wpIn cx.fence 0 cx.P a w K' Q := by
  have hs : Sat cx β n H (mapF w.heap.size [] :: F) (w.alloc (.map #[] 0)) := by
    refine h.sat.add (Chg.alloc w _) _ ⟨[], 0, heap_alloc_new w _, rfl, List.Pairwise.nil, fun _ q => by cases q⟩ (fun k hk => ?_)
    obtain rfl : k = w.heap.size := hk
    simp
  refine wp_val (v := .map (some w.heap.size)) (w' := w.alloc (.map #[] 0)) ?_ (notDefer ho (fun _ q => by cases q)) (hk _ _ (put_sound (s := .c (.v (.map (some w.heap.size)))) (h.mem hs) trivial (hp _)))
  simp [execOp, ho, Instr.makeMap]
/-- A map is written: whatever is known of memory before and behind. -/
def muwp (cx : Cx) (n : Nat) (env : Env) (H : List Bk) (F : List Fact) (dst : Option Tmp) (t : TypeId) (m k x : Operand) (K : KT) : Prop :=
  match ev env m, ev env k, ev env x, dst with
  | some sm, some sk, some sx, none => ∃ (H' : List Bk) (F' : Nat → List Fact), (∀ β w, Sat cx β n H F w → ∃ w' y, (Instr.mapUpdate t (sm.val β) (sk.val β) (sx.val β)).run cx.P w = .ok () w' ∧ Sat cx β n H' (F' y) w') ∧ ∀ y, K n env H' (F' y)
  | _, _, _, _ => False
theorem muwp_sound (h : Inv cx β n env H F a w) {o : Oper} {t : TypeId} {m k x : Operand} (ho : (execOp a.eval o) = (do Instr.mapUpdate t (a.eval m) (a.eval k) (a.eval x); pure Next.skip)) (hd : ∀ c, o.op ≠ .defer c) {K : KT} (hp : muwp cx n env H F o.dst t m k x K) {K' : Act → World → Prop} (hk : ∀ a w, AfterE cx β n K a w → K' a w) {Q : Exit → Act → World → Prop} : o.wpIn cx.fence 0 cx.P a w K' Q := by
  unfold muwp at hp
  split at hp
  · rename_i sm sk sx h1 h2 h3 hdst
    obtain ⟨H', F', hf, hK⟩ := hp
    obtain ⟨w', y, e1, e2⟩ := hf β w h.sat
    refine wp_skip' (w' := w') ?_ hd ?_
    · rw [ho, (h.ev h1).1, (h.ev h2).1, (h.ev h3).1]
      simp only [Sem.run_bind, e1, Result.andThen_ok, Sem.run_pure]
    · have hput : a.put o.dst undef = a := by rw [hdst]; rfl
      rw [hput]
      exact hk _ _ ⟨β, n, env, H', F' y, Agr.refl _ _, Nat.le_refl _, h.mem e2, hK y⟩
  · exact hp.elim

/-! ### a slice of bytes turned to its own type: a literal's row, which a string may share from then on -/
theorem freeze_chg (w : World) (a : Addr) (k : Nat) : Chg (· = a.block) w (w.freeze a k) := by
  unfold World.freeze
  split
  · exact Chg.refl _ _
  · exact ⟨rfl, rfl, rfl, by simp, fun i _ hi => by
      show (w.heap.modify a.block _)[i]? = _
      rw [Array.getElem?_modify, if_neg (fun q => hi q.symm)]⟩
theorem freeze_cell (w : World) (a : Addr) (k : Nat) (b : Addr) : (w.freeze a k).cell? b = w.cell? b := by
  unfold World.freeze
  split
  · rfl
  · unfold World.cell?
    simp only [Array.getElem?_modify]
    by_cases h : a.block = b.block
    · rw [if_pos h]
      cases hw : w.heap[b.block]? with
      | none => rfl
      | some o => cases o <;> simp
    · rw [if_neg h]
def fzwp (cx : Cx) (n : Nat) (env : Env) (H : List Bk) (F : List Fact) (dst : Option Tmp) (src t : TypeId) (x : Operand) (K : KT) : Prop :=
  match Nat.beq src t, lk cx.tt t, ev env x with
  | true, some i, some (.c (.v (.slice (some ad) m cp))) => match i.desc with
    | .slice e => match lk cx.tt e with
      | some ie => match ie.desc with
        | .int .u8 => ∃ (j : Nat) (xs : List Value), nth F j = some (rowF e 1 (.slice (some ad) m cp) m xs) ∧ put cx.N n env H (putAt F j (rdF 1 (some ad) m xs)) dst (.c (.v (.slice (some ad) m cp))) K
        | _ => False
      | none => False
    | _ => False
  | _, _, _ => False
theorem fzwp_sound (g : Good cx) (h : Inv cx β n env H F a w) {o : Oper} {src t : TypeId} {x : Operand} (ho : o.op = .convert src t x) {K : KT} (hp : fzwp cx n env H F o.dst src t x K) {K' : Act → World → Prop} (hk : ∀ a w, AfterE cx β n K a w → K' a w) {Q : Exit → Act → World → Prop} : o.wpIn cx.fence 0 cx.P a w K' Q := by
  unfold fzwp at hp
  split at hp
  · rename_i i ad m cp hst hi hx
    obtain rfl := Nat.eq_of_beq_eq_true hst
    have ti := g.ti hi
    split at hp
    · rename_i e hd
      split at hp
      · rename_i ie hie
        have tie := g.ti hie
        split at hp
        · rename_i hde
          obtain ⟨j, xs, hj, hK⟩ := hp
          have e1 : a.eval x = .slice (some ad) m cp := (h.ev hx).1
          have hown : w.ownsRow 0 e 1 (.slice (some ad) m cp) m xs := h.sat.fact _ (List.mem_of_getElem? (by rw [← nth_eq]; exact hj))
          have hrd : Rd 1 (some ad) m xs w := row_rd hown
          rcases hown.2 with ⟨q, _⟩ | ⟨b, cap, cur, hv, _, hg, hnc, hcm, hcs, htake⟩
          · cases q
          · have hab : ad = ⟨b, 0, none⟩ := by injection hv with h1; injection h1
            subst hab
            have hsh : w.shape? b = some (e, cur.size) := by unfold World.shape?; rw [hg]
            have hu := run_underlying (ti.real (d := .slice _) hd rfl) w
            have hue := run_underlying (tie.real (d := .int _) hde rfl) w
            have hrun : (convert src src (.slice (some ⟨b, 0, none⟩) m cp)).run cx.P w = .ok (.slice (some ⟨b, 0, none⟩) m cp) (w.freeze ⟨b, cur.size, none⟩ 1) := by
              simp [convert, hu, hue, markStringish, hsh]
            have hs : Sat cx β n H (putAt F j (rdF 1 (some ⟨b, 0, none⟩) m xs)) (w.freeze ⟨b, cur.size, none⟩ 1) := by
              refine h.sat.upd hj rfl ?_ ?_ ?_
              · exact Chg.mono (freeze_chg w ⟨b, cur.size, none⟩ 1) (fun i _ q => by subst q; rfl)
              · refine ⟨hrd.1, fun hk => ?_⟩
                obtain ⟨ad', q, hc⟩ := hrd.2 hk
                exact ⟨ad', q, fun j u hu => by rw [freeze_cell]; exact hc j u hu⟩
              · rintro k ⟨_, ad', q, rfl⟩
                obtain rfl := Option.some.inj q
                exact .inl rfl
            refine wp_val (v := .slice (some ⟨b, 0, none⟩) m cp) (w' := w.freeze ⟨b, cur.size, none⟩ 1) ?_ (notDefer ho (fun _ q => by cases q)) (hk _ _ (put_sound (s := .c (.v (.slice (some ⟨b, 0, none⟩) m cp))) (h.mem hs) trivial hK))
            simp only [execOp, ho, e1, Sem.run_bind, hrun, Result.andThen_ok, Sem.run_pure]
        · exact hp.elim
      · exact hp.elim
    · exact hp.elim
  · exact hp.elim

/-! ### calls -/
def Ret (cx : Cx) (β : Va) (n : Nat) (env : Env) (dst : Option Tmp) (K : KT) (v : Value) (w' : World) : Prop :=
  ∃ β' n' H' F' s, Agr n β β' ∧ n ≤ n' ∧ SV.lt n' s ∧ s.val β' = v ∧ Sat cx β' n' H' F' w' ∧ put cx.N n' env H' F' dst s K
theorem Ret.mk {cx : Cx} {β : Va} {n : Nat} {env : Env} {dst : Option Tmp} {K : KT} {v : Value} {w' : World} (H' : List Bk) (F' : List Fact) (hs : Sat cx β n H' F' w') (hk : put cx.N n env H' F' dst (ofValue v) K) : Ret cx β n env dst K v w' :=
  ⟨β, n, H', F', ofValue v, Agr.refl _ _, Nat.le_refl _, ofValue_lt _ _, ofValue_val _ _, hs, hk⟩
def svsOf (env : Env) : List Operand → Option (List SV)
  | [] => some []
  | x :: r => match ev env x, svsOf env r with
    | some s, some l => some (s :: l)
    | _, _ => none
def fnOf : SV → Option (Nat × List SL × List SL)
  | .c (.v (.func (.func f) first caps)) => some (f, first.toList.map SL.v, caps.toList.map SL.v)
  | .fn (.func f) first caps => some (f, first, caps)
  | _ => none
def yldOf : SV → Option Nat
  | .c (.v (.func (.yield l) first _)) => match first.toList with | [] => some l | _ => none
  | _ => none
/-- A round of a loop over a function, from here. -/
def Yld (P : Program) (l : Nat) (args : Array Value) (w : World) (R : Value → World → Prop) : Prop :=
  ∃ f tmps assign body, (Instr.yield l args).run P w = .ok (.round l f tmps assign body) w ∧ RoundIn Fence.wide 0 P l f tmps assign body w (fun e w' => ∃ v, e = .returned v ∧ R v w')
def cawp (cx : Cx) (n : Nat) (env : Env) (H : List Bk) (F : List Fact) (dst : Option Tmp) (f : Operand) (args : List Operand) (K : KT) : Prop :=
  match ev env f, svsOf env args with
  | some s, some ss => match fnOf s with
    | some (k, first, caps) => match memb cx.fns k with
      | true => ∀ β w, Sat cx β n H F w → Calls cx.P k (first.map (SL.val β) ++ (ss.map (SV.val β) ++ caps.map (SL.val β))).toArray w fun e w' => ∃ v, e = .returned v ∧ Ret cx β n env dst K v w'
      | false => callable cx.P k = true ∧ ∀ β w, Sat cx β n H F w → Calls cx.P k (first.map (SL.val β) ++ (ss.map (SV.val β) ++ caps.map (SL.val β))).toArray w fun e w' => ∃ v, e = .returned v ∧ Ret cx β n env dst K v w'
    | none => match yldOf s with
      | some l => ∀ β w, Sat cx β n H F w → Yld cx.P l (ss.map (SV.val β)).toArray w fun v w' => Ret cx β n env dst K v w'
      | none => False
  | _, _ => False

theorem roundIn_fence (cx : Cx) {m l : Nat} {f : FuncId} {tmps : Array Value} {x y : Code} {w : World} {R : Ending → World → Prop} (h : RoundIn Fence.wide m cx.P l f tmps x y w R) : RoundIn cx.fence m cx.P l f tmps x y w R := by
  unfold Cx.fence
  cases cx.rnd <;> exact h
theorem callsIn_fence (cx : Cx) {m : Nat} {f : FuncId} {args : Array Value} {w : World} {R : Ending → World → Prop} (h : CallsIn Fence.wide m cx.P f args w R) : CallsIn cx.fence m cx.P f args w R := by
  unfold Cx.fence
  cases cx.rnd <;> exact h

theorem svsOf_sound (h : Inv cx β n env H F a w) : ∀ (xs : List Operand) (l : List SV), svsOf env xs = some l → xs.map a.eval = l.map (SV.val β) ∧ ∀ x ∈ l, x.lt n
  | [], l, hl => by
    simp only [svsOf, Option.some.injEq] at hl
    subst hl
    exact ⟨rfl, fun x hx => by cases hx⟩
  | x :: r, l, hl => by
    simp only [svsOf] at hl
    split at hl
    · rename_i y l' he hr
      obtain rfl := Option.some.inj hl
      obtain ⟨h1, h2⟩ := svsOf_sound h r l' hr
      obtain ⟨h3, h4⟩ := h.ev he
      refine ⟨by simp only [List.map_cons, h1, h3], fun z hz => ?_⟩
      rcases List.mem_cons.1 hz with rfl | hz
      · exact h4
      · exact h2 z hz
    · cases hl

theorem cawp_sound (g : Good cx) (h : Inv cx β n env H F a w) {o : Oper} {c : Call} (ho : o.op = .call c) {f : Operand} (hf : c.callee = .value f) {K : KT} (hp : cawp cx n env H F o.dst f c.args.toList K) {K' : Act → World → Prop} (hk : ∀ a w, AfterE cx β n K a w → K' a w) {Q : Exit → Act → World → Prop} : o.wpIn cx.fence 0 cx.P a w K' Q := by
  unfold cawp at hp
  split at hp
  · rename_i s ss hs hss
    obtain ⟨h1, h2⟩ := h.ev hs
    obtain ⟨h3, h4⟩ := svsOf_sound h _ _ hss
    split at hp
    · rename_i k first caps hfn
      have hp' : callable cx.P k = true ∧ ∀ β w, Sat cx β n H F w → Calls cx.P k (first.map (SL.val β) ++ (ss.map (SV.val β) ++ caps.map (SL.val β))).toArray w fun e w' => ∃ v, e = .returned v ∧ Ret cx β n env o.dst K v w' := by
        split at hp
        · rename_i hm; exact ⟨g.fn k (memb_mem hm), hp⟩
        · exact hp
      · have hcall := hp'.1
        have hc := hp'.2 β w h.sat
        have hval : s.val β = .func (.func k) (first.map (SL.val β)).toArray (caps.map (SL.val β)).toArray := by
          unfold fnOf at hfn
          split at hfn
          · simp only [Option.some.injEq, Prod.mk.injEq] at hfn
            obtain ⟨rfl, rfl, rfl⟩ := hfn
            simp [SV.val, SL.val, Function.comp_def]
          · simp only [Option.some.injEq, Prod.mk.injEq] at hfn
            obtain ⟨rfl, rfl, rfl⟩ := hfn
            rfl
          · cases hfn
        have eargs : c.args.map a.eval = (ss.map (SV.val β)).toArray := by
          apply Array.ext'
          rw [Array.toList_map, h3]
        have hfun : ∀ args : Array Value, (callFunc k args).run cx.P w = .ok (.enter k args) w := by
          intro args
          unfold callable at hcall
          cases hq : cx.P.funcs[k]? with
          | none => rw [hq] at hcall; cases hcall
          | some fn =>
            rw [hq] at hcall
            simp only [Bool.and_eq_true, Bool.not_eq_true'] at hcall
            obtain ⟨hb, hn⟩ := hcall
            have hn' : ¬ fn.name = "runtime.NumGoroutine" := by simpa using hn
            have hb' : ¬ fn.body = none := by intro q; rw [q] at hb; cases hb
            simp [callFunc, hq, hn', hb']
        have hexec : (execOp a.eval o).run cx.P w = .ok (.enter k (first.map (SL.val β) ++ (ss.map (SV.val β) ++ caps.map (SL.val β))).toArray) w := by
          simp only [execOp, ho, resolve, hf, h1, hval, Deferred.ofValue, Sem.run_bind, Sem.run_pure, Result.andThen_ok, invoke, eargs, hfun]
          congr 3
          simp
        unfold Oper.wpIn
        rw [Oper.semAt_eq _ _ _ (notDefer ho (fun _ q => by cases q)), hexec]
        refine ⟨fun f _ => cx.fence_fn f, ?_⟩
        rw [Oper.uponIn_enter]
        refine ⟨fun q => (by rw [cx.fence_depth] at q; cases q), ?_⟩
        refine CallsIn.mono (callsIn_fence cx (callsIn_wide (n := 0 - 1).2 hc)) fun e w' ⟨v, he, β', n', H', F', s', hb1, hn, hlt, hv, hsat, hput⟩ => ?_
        subst he
        subst hv
        have hi' : Inv cx β' n' env H' F' a w' := by
          refine ⟨fun t q ht => ?_, h.size, by rw [hb1.marks]; exact h.df, fun t q ht => SV.lt_mono hn (h.lte t q ht), hsat⟩
          rw [SV.val_congr hb1 (h.lte t q ht)]
          exact h.ag t q ht
        exact hk _ _ ((put_sound hi' hlt hput).ext hb1 hn)
    · split at hp
      · rename_i l hl
        obtain ⟨vfirst, vcaps, hfirst, rfl⟩ : ∃ (x y : Array Value), x = #[] ∧ s = .c (.v (.func (.yield l) x y)) := by
          unfold yldOf at hl
          split at hl
          · split at hl
            · rename_i hnil; obtain rfl := Option.some.inj hl; exact ⟨_, _, by simpa using hnil, rfl⟩
            · cases hl
          · cases hl
        obtain ⟨f', tmps, assign, body, hy, hround⟩ := hp β w h.sat
        have eargs : c.args.map a.eval = (ss.map (SV.val β)).toArray := by
          apply Array.ext'
          rw [Array.toList_map, h3]
        have h1' : a.eval f = .func (.yield l) vfirst vcaps := h1
        have hexec : (execOp a.eval o).run cx.P w = .ok (.round l f' tmps assign body) w := by
          simp only [execOp, ho, resolve, hf, h1', Deferred.ofValue, Sem.run_bind, Sem.run_pure, Result.andThen_ok, invoke, eargs]
          subst hfirst
          simpa using hy
        unfold Oper.wpIn
        rw [Oper.semAt_eq _ _ _ (notDefer ho (fun _ q => by cases q)), hexec]
        refine ⟨fun f _ => cx.fence_fn f, ?_⟩
        rw [Oper.uponIn_round]
        refine ⟨fun q => (by rw [cx.fence_depth] at q; cases q), ?_⟩
        refine RoundIn.mono (roundIn_fence cx hround) fun e w' ⟨v, he, β', n', H', F', s', hb1, hn, hlt, hv, hsat, hput⟩ => ?_
        subst he
        subst hv
        have hi' : Inv cx β' n' env H' F' a w' := by
          refine ⟨fun t q ht => ?_, h.size, by rw [hb1.marks]; exact h.df, fun t q ht => SV.lt_mono hn (h.lte t q ht), hsat⟩
          rw [SV.val_congr hb1 (h.lte t q ht)]
          exact h.ag t q ht
        exact hk _ _ ((put_sound hi' hlt hput).ext hb1 hn)
      · exact hp.elim
  · exact hp.elim

/-! ### built-ins that write -/
def consts (c : Call) : Array Bool := c.args.map fun | .const _ => true | _ => false
def bfwp (cx : Cx) (n : Nat) (env : Env) (H : List Bk) (F : List Fact) (dst : Option Tmp) (c : Call) (b : Builtin) (K : KT) : Prop :=
  match svsOf env c.args.toList with
  | some ss => ∃ (H' : List Bk) (F' : List Fact) (r : SV), (∀ β w ty, Sat cx β n H F w → ∃ w', (builtin b c.argTypes ty (consts c) (ss.map (SV.val β)).toArray).run cx.P w = .ok (.value (r.val β)) w' ∧ Sat cx β n H' F' w') ∧ r.lt n ∧ put cx.N n env H' F' dst r K
  | none => False
theorem bfwp_sound (h : Inv cx β n env H F a w) {o : Oper} {c : Call} (ho : o.op = .call c) {b : Builtin} (hb : c.callee = .builtin b) {K : KT} (hp : bfwp cx n env H F o.dst c b K) {K' : Act → World → Prop} (hk : ∀ a w, AfterE cx β n K a w → K' a w) {Q : Exit → Act → World → Prop} : o.wpIn cx.fence 0 cx.P a w K' Q := by
  unfold bfwp at hp
  split at hp
  · rename_i ss hss
    obtain ⟨H', F', r, hf, hr, hK⟩ := hp
    obtain ⟨w', e1, e2⟩ := hf β w o.type h.sat
    have eargs : c.args.map a.eval = (ss.map (SV.val β)).toArray := by
      apply Array.ext'
      rw [Array.toList_map, (svsOf_sound h _ _ hss).1]
    refine wp_val (v := r.val β) (w' := w') ?_ (notDefer ho (fun _ q => by cases q)) (hk _ _ (put_sound (h.mem e2) hr hK))
    simp only [execOp, ho]
    refine run_call_w a c b hb o.type w w' _ ?_
    rw [eargs]
    exact e1
  · exact hp.elim

/-! ### one operation, whatever it is -/
def isRo (cx : Cx) : Op → Bool
  | .alloc _ | .box _ _ | .store _ _ _ | .buildSlice _ _ _ | .makeSlice _ _ _ | .makeMap _ _ | .mapUpdate _ _ _ _ | .insert _ _ _ _ => false
  | .convert src dst _ => match lk cx.tt src, lk cx.tt dst with
    | some i, some j => (match i.desc, j.desc with | .string, .slice _ => false | .slice _, .slice _ => false | _, _ => true)
    | _, _ => true
  | .call c => match c.callee with
    | .builtin .len | .builtin .cap | .builtin .min | .builtin .max => true
    | _ => false
  | _ => true
def fxwp (cx : Cx) (n : Nat) (env : Env) (H : List Bk) (F : List Fact) (dst : Option Tmp) (op : Op) (K : KT) : Prop :=
  match op with
  | .alloc t => alwp cx n env H F dst t K
  | .box t x => bxwp cx n env H F dst t x K
  | .store t x y => stwp cx n env H F dst t x y K
  | .buildSlice t l ps => bswp cx n env H F dst t l ps K
  | .makeSlice t x y => mkwp cx n env H F dst t x y K
  | .makeMap _ none => mmpwp cx n env H F dst K
  | .mapUpdate t m k x => muwp cx n env H F dst t m k x K
  | .insert t m k x => muwp cx n env H F dst t m k x K
  | .convert src t x => match ev env x with
    | some (.c (.v (.slice _ _ _))) => fzwp cx n env H F dst src t x K
    | _ => sbwp cx n env H F dst src t x K
  | .call c => match c.callee with
    | .builtin .append => apwp cx n env H F dst c K
    | .builtin .copy => bfwp cx n env H F dst c .copy K
    | .builtin .delete => bfwp cx n env H F dst c .delete K
    | .builtin .unsafeSliceData => bfwp cx n env H F dst c .unsafeSliceData K
    | .builtin .unsafeString => bfwp cx n env H F dst c .unsafeString K
    | .value f => cawp cx n env H F dst f c.args.toList K
    | _ => False
  | _ => False
/-- A full slice expression has a high bound. -/
def slOk : Op → Bool
  | .slice _ _ _ hi mx => match mx, hi with | some _, none => false | _, _ => true
  | _ => true
def opwp (cx : Cx) (n : Nat) (env : Env) (H : List Bk) (F : List Fact) (dst : Option Tmp) (op : Op) (K : KT) : Prop :=
  match slOk op with
  | true => match isRo cx op with
    | true => rowp cx n env H F op fun s => put cx.N n env H F dst s K
    | false => fxwp cx n env H F dst op K
  | false => False

theorem slOk_spec {o : Oper} (h : slOk o.op = true) : ∀ t x lo hi mx, o.op = .slice t x lo hi mx → mx.isSome = true → hi.isSome = true := by
  intro t x lo hi mx ho hm
  rw [ho] at h
  cases mx with
  | none => cases hm
  | some m => cases hi with
    | none => cases h
    | some _ => rfl

theorem opwp_sound (g : Good cx) (h : Inv cx β n env H F a w) {o : Oper} {K : KT} (hp : opwp cx n env H F o.dst o.op K) {K' : Act → World → Prop} (hk : ∀ a w, AfterE cx β n K a w → K' a w) {Q : Exit → Act → World → Prop} : o.wpIn cx.fence 0 cx.P a w K' Q := by
  unfold opwp at hp
  split at hp
  · rename_i hsl
    split at hp
    · have hp0 := hp
      obtain ⟨r, h1, h2, h3⟩ := rowp_sound g h o (slOk_spec hsl) hp
      exact wp_val (h3 w h.sat) (fun c q => by rw [q] at hp0; exact hp0.elim) (hk _ _ (put_sound h h1 h2))
    · unfold fxwp at hp
      split at hp
      · rename_i ho; exact alwp_sound g h ho hp hk
      · rename_i ho; exact bxwp_sound h ho hp hk
      · rename_i ho; exact stwp_sound g h ho hp hk
      · rename_i ho; exact bswp_sound g h ho hp hk
      · rename_i ho; exact mkwp_sound g h ho hp hk
      · rename_i ho; exact mmpwp_sound h ho hp hk
      · rename_i ho; exact muwp_sound h (by simp only [execOp, ho]) (notDefer ho (fun _ q => by cases q)) hp hk
      · rename_i ho; exact muwp_sound h (by simp only [execOp, ho]) (notDefer ho (fun _ q => by cases q)) hp hk
      · rename_i ho
        split at hp
        · exact fzwp_sound g h ho hp hk
        · exact sbwp_sound g h ho hp hk
      · rename_i c ho
        split at hp
        · rename_i hb; exact apwp_sound g h ho hb hp hk
        · rename_i hb; exact bfwp_sound h ho hb hp hk
        · rename_i hb; exact bfwp_sound h ho hb hp hk
        · rename_i hb; exact bfwp_sound h ho hb hp hk
        · rename_i hb; exact bfwp_sound h ho hb hp hk
        · rename_i hb; exact cawp_sound g h ho hb hp hk
        · exact hp.elim
      · exact hp.elim
  · exact hp.elim

/-! ### guards, regions -/
def dstOf (l : List Oper) (j : Nat) : Option Tmp := match nth l j with | some o => o.dst | none => none
def gwp (cx : Cx) (all : List Oper) (n : Nat) (env : Env) (H : List Bk) (F : List Fact) (o : Oper) (K : KT) : Prop :=
  match o.guard with
  | none => opwp cx n env H F o.dst o.op K
  | some (j, want) => match dstOf all j with
    | some t => match get env t with
      | some (.c (.v (.bool b))) => (match b with
          | true => (match want with | true => opwp cx n ((t, bl true) :: env) H F o.dst o.op K | false => put cx.N n ((t, bl true) :: env) H F o.dst (.c (.v undef)) K)
          | false => (match want with | true => put cx.N n ((t, bl false) :: env) H F o.dst (.c (.v undef)) K | false => opwp cx n ((t, bl false) :: env) H F o.dst o.op K))
      | some (.c (.v (.tuple _))) => put cx.N n env H F o.dst (.c (.v undef)) K
      | _ => False
    | none => False
def rwp (cx : Cx) (all : List Oper) : List Oper → KT → KT
  | [], K => K
  | o :: r, K => fun n env H F => gwp cx all n env H F o (rwp cx all r K)

theorem Inv.shadow (h : Inv cx β n env H F a w) {t : Nat} {b : Bool} (ht : get env t = some (.c (.v (.bool b)))) : Inv cx β n ((t, bl b) :: env) H F a w := by
  refine ⟨fun u s hu => ?_, h.size, h.df, fun u s hu => ?_, h.sat⟩
  · by_cases htu : t = u
    · subst htu
      rw [get_same] at hu
      obtain rfl := Option.some.inj hu
      exact h.ag t _ ht
    · rw [get_other _ _ htu] at hu
      exact h.ag u s hu
  · by_cases htu : t = u
    · subst htu
      rw [get_same] at hu
      obtain rfl := Option.some.inj hu
      trivial
    · rw [get_other _ _ htu] at hu
      exact h.lte u s hu

theorem gwp_sound (g : Good cx) (h : Inv cx β n env H F a w) {ops : Array Oper} {o : Oper} {K : KT} (hp : gwp cx ops.toList n env H F o K) {K' : Act → World → Prop} (hk : ∀ a w, AfterE cx β n K a w → K' a w) {Q : Exit → Act → World → Prop} :
    if Region.wanted o (yielded ops a.tmps) then o.wpIn cx.fence 0 cx.P a w K' Q else K' (a.put o.dst undef) w := by
  unfold gwp at hp
  split at hp
  · rename_i hg
    rw [if_pos (by simp [Region.wanted, hg])]
    exact opwp_sound g h hp hk
  · rename_i j want hg
    split at hp
    · rename_i t hdt
      have hop : (ops[j]?).bind (·.dst) = some t := by
        unfold dstOf at hdt
        rw [nth_eq] at hdt
        split at hdt
        · rename_i o' ho'
          have : ops[j]? = some o' := by simpa using ho'
          rw [this]; exact hdt
        · cases hdt
      split at hp
      · rename_i b hb
        have hy : yielded ops a.tmps j = some b := by
          have := h.ag t _ hb
          simp only [SV.val, SL.val] at this
          simp [yielded, hop, this]
        obtain ⟨hT, hF⟩ := (show BIf _ _ _ from hp).out
        have hw : Region.wanted o (yielded ops a.tmps) = (b == want) := by simp [Region.wanted, hg, hy]
        rw [hw]
        cases b <;> cases want
        · rw [if_pos (by decide)]; exact opwp_sound g (h.shadow hb) (hF rfl) hk
        · rw [if_neg (by decide)]; exact hk _ _ (put_sound (s := .c (.v undef)) (h.shadow hb) trivial (hF rfl))
        · rw [if_neg (by decide)]; exact hk _ _ (put_sound (s := .c (.v undef)) (h.shadow hb) trivial (hT rfl))
        · rw [if_pos (by decide)]; exact opwp_sound g (h.shadow hb) (hT rfl) hk
      · rename_i vs hb
        have hy : yielded ops a.tmps j = none := by
          have := h.ag t _ hb
          simp only [SV.val, SL.val] at this
          simp [yielded, hop, this]
        rw [if_neg (by simp [Region.wanted, hg, hy])]
        exact hk _ _ (put_sound (s := .c (.v undef)) h trivial hp)
      · exact hp.elim
    · exact hp.elim

theorem rwp_sound (g : Good cx) {ops : Array Oper} : ∀ (l : List Oper) {K : KT} {β : Va} {n : Nat} {env : Env} {H : List Bk} {F : List Fact} {a : Act} {w : World}, Inv cx β n env H F a w → rwp cx ops.toList l K n env H F → ∀ {Q : Exit → Act → World → Prop}, (∀ a w, After cx K a w → Q .normal a w) → wpListIn cx.fence 0 cx.P ops Q l a w
  | [], K, β, n, env, H, F, a, w, h, hp, Q, hq => wpListIn_nil (hq _ _ ⟨β, n, env, H, F, h, hp⟩)
  | o :: r, K, β, n, env, H, F, a, w, h, hp, Q, hq => by
    refine wpListIn_step fun K' hK' => ?_
    have := gwp_sound (Q := Q) g h hp (fun a w ⟨β', n', env', H', F', _, _, h', hr⟩ => hK' _ _ (rwp_sound g r h' hr hq))
    split at this
    · rename_i q; rw [if_pos q]; exact this
    · rename_i q; rw [if_neg q]; exact ⟨fun f _ => cx.fence_fn f, this⟩

/-! ### whole code -/
def Post (cx : Cx) (Q : Exit → KT) : Exit → Act → World → Prop
  | .panic _, _, _ => False
  | .outgrown, _, _ => False
  | e, a, w => After cx (Q e) a w
structure Tri (cx : Cx) (c : Code) (Q : Exit → KT) (n : Nat) (env : Env) (H : List Bk) (F : List Fact) : Prop where
  run : ∀ β a w, Inv cx β n env H F a w → c.wpIn cx.fence 0 cx.P (Post cx Q) a w
def andThen (k : KT) (Q : Exit → KT) : Exit → KT
  | .normal => k
  | e => Q e
def inBlock (id : Nat) (Q : Exit → KT) : Exit → KT
  | .exit i => match Nat.beq i id with | true => Q .normal | false => Q (.exit i)
  | e => Q e
def cwp (cx : Cx) : Code → (Exit → KT) → KT
  | .skip, Q => Q .normal
  | .region id ops draw, Q => match draw with
    | false => rwp cx ops.toList ops.toList (Q .normal)
    | true => Tri cx (.region id ops true) Q
  | .seq a b, Q => cwp cx a (andThen (cwp cx b Q) Q)
  | .cond c x y, Q => fun n env H F => match ev env c with
    | some (.c (.v (.bool b))) => (match b with | true => cwp cx x Q n env H F | false => cwp cx y Q n env H F)
    | _ => False
  | .block id c, Q => cwp cx c (inBlock id Q)
  | .loop c, Q => Tri cx (.loop c) Q
  | .exit id, Q => Q (.exit id)
  | .ret, Q => Q .ret
  | .rangeFunc f ps x y, Q => Tri cx (.rangeFunc f ps x y) Q
  | _, _ => fun _ _ _ _ => False

theorem Post.of {Q Q' : Exit → KT} (h : ∀ e n env H F, Q e n env H F → Q' e n env H F) {e : Exit} {a : Act} {w : World} (hp : Post cx Q e a w) : Post cx Q' e a w := by
  cases e <;> first
    | exact hp
    | (obtain ⟨β, n, env, H, F, hi, hq⟩ := hp; exact ⟨β, n, env, H, F, hi, h _ _ _ _ _ hq⟩)

theorem cwp_sound (g : Good cx) : ∀ (c : Code) (Q : Exit → KT) (n : Nat) (env : Env) (H : List Bk) (F : List Fact), cwp cx c Q n env H F → Tri cx c Q n env H F
  | .skip, Q, n, env, H, F, hp => ⟨fun β a w h => wpIn_skip ⟨β, n, env, H, F, h, hp⟩⟩
  | .region id ops draw, Q, n, env, H, F, hp => by
    cases draw with
    | true => exact hp
    | false => exact ⟨fun β a w h => wpIn_region_list (rwp_sound g _ h hp (fun a w q => q))⟩
  | .seq x y, Q, n, env, H, F, hp => by
    refine ⟨fun β a w h => wpIn_seq (wpIn_mono ((cwp_sound g x _ n env H F hp).run β a w h) fun e a w hq => ?_)⟩
    cases e with
    | normal =>
      obtain ⟨β', n', env', H', F', h', hq'⟩ := hq
      exact (cwp_sound g y Q n' env' H' F' hq').run β' a w h'
    | exit id => exact hq
    | goto l => exact hq
    | ret => exact hq
    | panic c => exact hq
    | outgrown => exact hq
  | .cond c x y, Q, n, env, H, F, hp => by
    refine ⟨fun β a w h => ?_⟩
    simp only [cwp] at hp
    split at hp
    · rename_i b hb
      have he : a.eval c = .bool b := (h.ev hb).1
      obtain ⟨hT, hF⟩ := (show BIf _ _ _ from hp).out
      exact wpIn_cond_split he (fun q => (cwp_sound g x Q n env H F (hT q)).run β a w h) (fun q => (cwp_sound g y Q n env H F (hF q)).run β a w h)
    · exact hp.elim
  | .block id c, Q, n, env, H, F, hp => by
    refine ⟨fun β a w h => wpIn_block (wpIn_mono ((cwp_sound g c _ n env H F hp).run β a w h) fun e a w hq => ?_)⟩
    cases e with
    | normal => exact hq
    | exit i =>
      obtain ⟨β', n', env', H', F', h', hq'⟩ := hq
      simp only [inBlock] at hq'
      simp only [Exit.inBlock]
      cases hb : Nat.beq i id with
      | true => rw [hb] at hq'; rw [if_pos (Nat.eq_of_beq_eq_true hb)]; exact ⟨β', n', env', H', F', h', hq'⟩
      | false =>
        rw [hb] at hq'
        rw [if_neg (fun q => by subst q; rw [Nat.beq_refl] at hb; cases hb)]
        exact ⟨β', n', env', H', F', h', hq'⟩
    | goto l => exact hq
    | ret => exact hq
    | panic c => exact hq
    | outgrown => exact hq
  | .loop c, Q, n, env, H, F, hp => hp
  | .exit id, Q, n, env, H, F, hp => ⟨fun β a w h => wpIn_exit ⟨β, n, env, H, F, h, hp⟩⟩
  | .ret, Q, n, env, H, F, hp => ⟨fun β a w h => wpIn_ret ⟨β, n, env, H, F, h, hp⟩⟩
  | .rangeFunc f ps x y, Q, n, env, H, F, hp => hp
  | .scope _, Q, n, env, H, F, hp => hp.elim
  | .label _, Q, n, env, H, F, hp => hp.elim
  | .goto _, Q, n, env, H, F, hp => hp.elim
  | .refuse _, Q, n, env, H, F, hp => hp.elim

/-! ### loops -/
/-- What is known at a loop's head follows from what is known here. -/
structure Ent (cx : Cx) (n : Nat) (env : Env) (H : List Bk) (F : List Fact) (n' : Nat) (env' : Env) (H' : List Bk) (F' : List Fact) : Prop where
  run : ∀ β a w, Inv cx β n env H F a w → ∃ β' : Va, β'.pins = β.pins ∧ β'.marks = β.marks ∧ Inv cx β' n' env' H' F' a w
theorem loop_rule {c : Code} {Q : Exit → KT} {ι : Type} (n' : Nat) (E : ι → Env) (HH : ι → List Bk) (FF : ι → List Fact) (pre : ι → Prop) (μ : ι → Nat) (i0 : ι) (h0 : pre i0) (he : Ent cx n env H F n' (E i0) (HH i0) (FF i0))
    (g : Good cx) (round : ∀ i, pre i → cwp cx c (andThen (fun m env H F => ∃ j, pre j ∧ μ j < μ i ∧ Ent cx m env H F n' (E j) (HH j) (FF j)) Q) n' (E i) (HH i) (FF i)) : Tri cx (.loop c) Q n env H F := by
  refine ⟨fun β a w h => ?_⟩
  obtain ⟨β', _, _, h'⟩ := he.run β a w h
  intro b k cs hro hb hr
  have key : ∀ (m : Nat) (i : ι), μ i = m → pre i → ∀ β a w, Inv cx β n' (E i) (HH i) (FF i) a w →
      ∃ e a' w', Post cx Q e a' w' ∧ ArrivesIn (Machine.fenced cx.P cx.fence) cx.P (lone (b.atR a (.code c :: .inLoop c :: k)) cs w) b k cs e a' w' := by
    intro m
    induction m using Nat.strongRecOn with
    | _ m ih =>
      intro i hm hpre β a w h
      have hr' := (cwp_sound g c _ _ _ _ _ (round i hpre)).run β a w h
      obtain ⟨e, a₁, w₁, hq, harr⟩ := hr' b (.inLoop c :: k) cs hro hb hr
      cases e with
      | normal =>
        obtain ⟨β', n1, env1, H1, F1, h1, j, hpj, hlt, hent⟩ := hq
        obtain ⟨β2, _, _, h2⟩ := hent.run β' a₁ w₁ h1
        obtain ⟨e₂, a₂, w₂, hq₂, harr₂⟩ := ih (μ j) (hm ▸ hlt) j rfl hpj β2 a₁ w₁ h2
        exact ⟨e₂, a₂, w₂, hq₂, .of_steps (StepsIn.trans harr (.one (fenced_calm hb hr rfl) stepR_inLoop)) harr₂⟩
      | exit id => exact ⟨.exit id, a₁, w₁, hq, .pass (x := .inLoop c) rfl (fun _ _ => .inl (by simp)) harr⟩
      | goto l => exact ⟨.goto l, a₁, w₁, hq, .pass (x := .inLoop c) rfl (fun _ _ => .inl (by simp)) harr⟩
      | ret => exact ⟨.ret, a₁, w₁, hq, .pass (x := .inLoop c) rfl (fun _ _ => .inl (by simp)) harr⟩
      | panic ch => exact hq.elim
      | outgrown => exact hq.elim
  obtain ⟨e, a', w', hq, harr⟩ := key _ i0 rfl h0 β' a w h'
  exact ⟨e, a', w', hq, .of_steps (.one (fenced_calm hb hr rfl) stepR_loop) harr⟩

/-! ### a function -/
def pairs : Nat → List SV → Env
  | _, [] => []
  | i, s :: r => (i, s) :: pairs (i + 1) r
theorem pairs_get : ∀ (l : List SV) (i t : Nat) (s : SV), get (pairs i l) t = some s → ∃ j, t = i + j ∧ l[j]? = some s
  | [], i, t, s, h => by cases h
  | x :: r, i, t, s, h => by
    simp only [pairs] at h
    by_cases hit : i = t
    · subst hit
      rw [get_same] at h
      exact ⟨0, rfl, by simpa using h⟩
    · rw [get_other _ _ hit] at h
      obtain ⟨j, rfl, hj⟩ := pairs_get r (i + 1) t s h
      exact ⟨j + 1, by omega, by simpa using hj⟩
/-- The results, symbolically. -/
def resOf (cx : Cx) (env : Env) (H : List Bk) : List ResultVar → Option (List SV)
  | [] => some []
  | .tmp t :: r => match get env t, resOf cx env H r with
    | some s, some l => some (s :: l)
    | _, _ => none
  | .cell t ty :: r => match get env t, lk cx.tt ty, resOf cx env H r with
    | some (.c (.p id o)), some i, some l => match cellsAt H id with
      | some cs => match i.agg with
        | true => match takeAt cs o i.size with | some xs => some (.agg xs :: l) | none => none
        | false => match nth cs o with | some x => some (.c x :: l) | none => none
      | none => none
    | _, _, _ => none
def retVal (β : Va) : List SV → Value
  | [s] => s.val β
  | l => .tuple (l.map (SV.val β)).toArray
/-- What is to be shown at a return. -/
def RetWP (cx : Cx) (rs : List ResultVar) (R : Value → World → Prop) : KT := fun n env H F =>
  match resOf cx env H rs with
  | some l => ∀ β w, Sat cx β n H F w → R (retVal β l) w
  | none => False
def fnPost (cx : Cx) (rs : List ResultVar) (R : Value → World → Prop) : Exit → KT
  | .normal | .ret => RetWP cx rs R
  | _ => fun _ _ _ _ => False

def rvSem (tmps : Array Value) : ResultVar → Sem Value
  | .tmp t => pure (tmps.getD t undef)
  | .cell t ty => do loadVar ty (← asAddr (tmps.getD t undef))
theorem resOf_sound (g : Good cx) (h : Inv cx β n env H F a w) : ∀ (rs : List ResultVar) (l : List SV), resOf cx env H rs = some l →
    (rs.mapM (rvSem a.tmps)).run cx.P w = .ok (l.map (SV.val β)) w
  | [], l, hl => by
    simp only [resOf, Option.some.injEq] at hl
    subst hl
    simp
  | .tmp t :: r, l, hl => by
    simp only [resOf] at hl
    split at hl
    · rename_i s l' hs hr
      obtain rfl := Option.some.inj hl
      have h1 := h.ag t s hs
      have h2 : a.tmps.getD t undef = s.val β := by simp only [Array.getD_eq_getD_getElem?, h1, Option.getD_some]
      simp only [List.mapM_cons, rvSem, Sem.run_bind, Sem.run_pure, Result.andThen_ok, resOf_sound g h r l' hr, h2, List.map_cons]
    · cases hl
  | .cell t ty :: r, l, hl => by
    simp only [resOf] at hl
    split at hl
    · rename_i id o i l' hs hi hr
      have ti := g.ti hi
      have hA : ∀ ad : Addr, (asAddr (.pointer (some ad))).run cx.P w = .ok ad w := fun _ => rfl
      have h1 := h.ag t _ hs
      have h2 : a.tmps.getD t undef = .pointer (some ⟨β id, o, none⟩) := by simp only [Array.getD_eq_getD_getElem?, h1, Option.getD_some]; rfl
      split at hl
      · rename_i cs hc
        split at hl
        · rename_i hag
          split at hl
          · rename_i xs hx
            obtain rfl := Option.some.inj hl
            have hrun := run_loadVarN ti hag w ⟨β id, o, none⟩ (xs.map (SL.val β)) (by rw [List.length_map]; exact (takeAt_spec _ _ _ _ hx).1) (h.sat.row hc hx)
            simp only [List.mapM_cons, rvSem, Sem.run_bind, Sem.run_pure, Result.andThen_ok, resOf_sound g h r l' hr, h2, List.map_cons, hA, hrun, SV.val]
          · cases hl
        · rename_i hag
          split at hl
          · rename_i x hx
            obtain rfl := Option.some.inj hl
            have hrun := run_loadVar1 ti hag w ⟨β id, o, none⟩ _ (h.sat.cell hc o hx)
            simp only [List.mapM_cons, rvSem, Sem.run_bind, Sem.run_pure, Result.andThen_ok, resOf_sound g h r l' hr, h2, List.map_cons, hA, hrun, SV.val]
          · cases hl
      · cases hl
    · cases hl

def SL.ltB (n : Nat) : SL → Bool
  | .v _ => true
  | .p id _ => Nat.blt id n
def allLtL (n : Nat) : List SL → Bool
  | [] => true
  | x :: r => match x.ltB n with | true => allLtL n r | false => false
def SV.ltB (n : Nat) : SV → Bool
  | .c x => x.ltB n
  | .agg xs => allLtL n xs
  | .fn _ first caps => match allLtL n first with | true => allLtL n caps | false => false
def allLt (n : Nat) : List SV → Bool
  | [] => true
  | x :: r => match x.ltB n with | true => allLt n r | false => false
theorem SL.ltB_lt {n : Nat} {x : SL} (h : x.ltB n = true) : x.lt n := by
  cases x with
  | v x => trivial
  | p id o => exact (by simpa [SL.ltB, Nat.blt_eq] using h : id < n)
theorem allLtL_mem {n : Nat} : ∀ {l : List SL}, allLtL n l = true → ∀ x ∈ l, x.lt n
  | [], _, x, hx => by cases hx
  | y :: r, h, x, hx => by
    simp only [allLtL] at h
    cases hy : y.ltB n with
    | false => rw [hy] at h; cases h
    | true =>
      rw [hy] at h
      rcases List.mem_cons.1 hx with rfl | hx
      · exact SL.ltB_lt hy
      · exact allLtL_mem h x hx
theorem SV.ltB_lt {n : Nat} {x : SV} (h : x.ltB n = true) : x.lt n := by
  cases x with
  | c x => exact SL.ltB_lt h
  | agg xs => exact allLtL_mem h
  | fn f first caps =>
    simp only [SV.ltB] at h
    cases hy : allLtL n first with
    | false => rw [hy] at h; cases h
    | true => rw [hy] at h; exact ⟨allLtL_mem hy, allLtL_mem h⟩
theorem allLt_mem {n : Nat} : ∀ {l : List SV}, allLt n l = true → ∀ x ∈ l, x.lt n
  | [], _, x, hx => by cases hx
  | y :: r, h, x, hx => by
    simp only [allLt] at h
    cases hy : y.ltB n with
    | false => rw [hy] at h; cases h
    | true =>
      rw [hy] at h
      rcases List.mem_cons.1 hx with rfl | hx
      · exact SV.ltB_lt hy
      · exact allLt_mem h x hx
/-- What stays when an object that nothing hangs on is put anew. -/
theorem Sat.unpin (h : Sat cx β n H F w) (hr : cx.rnd = none) (hp0 : cx.pn = []) {r : Nat} {rs : List Nat} (hm : β.marks = r :: rs) (o : Obj) :
    Sat cx ⟨β.b, β.pins.filter (fun p => !(p.1 == r)), rs⟩ n H F (w.putObj r o) := by
  have hrm : (r, Obj.deferred (some [])) ∈ β.pins ∧ cx.W0.heap.size ≤ r := h.mrk.2 r (by rw [hm]; exact List.mem_cons_self)
  have hrf : ∀ f ∈ F, ¬ f.D r := (h.pin _ hrm.1).2.2
  have hoth : ∀ k, k ≠ r → (w.putObj r o).heap[k]? = w.heap[k]? := fun k hk => World.putObj_heap_other hk
  have hnd : (r :: rs).Nodup := by rw [← hm]; exact h.mrk.1
  obtain ⟨hn1, hn2⟩ := List.nodup_cons.1 hnd
  refine ⟨⟨h.chg.os, h.chg.tape, h.chg.output, by rw [World.putObj_size]; exact h.chg.size, fun k hk hs => ?_⟩, h.fix, fun b hb => ?_, h.mine, h.inj, h.ltb, fun f hf => ?_, fun f hf k hk => ?_, h.sepb, h.fown, h.sepf, fun p hp => ?_, ⟨hn2, fun q hq => ?_⟩, ⟨fun p hp => (by rw [hp0] at hp; cases hp), fun l hl => ?_⟩⟩
  · rw [hoth k (by omega)]; exact h.chg.same k hk hs
  · rw [hoth _ (h.pinBk hrm.1 hb)]; exact h.blk b hb
  · exact f.st _ _ (fun k hk => hoth k (fun q => by subst q; exact hrf f hf hk)) (h.fact f hf)
  · rw [World.putObj_size]; exact h.flt f hf k hk
  · obtain ⟨hp1, hp2⟩ := List.mem_filter.1 hp
    have hne : p.1 ≠ r := by simpa using hp2
    exact ⟨by rw [hoth _ hne]; exact (h.pin p hp1).1, (h.pin p hp1).2⟩
  · have hq' := h.mrk.2 q (by rw [hm]; exact List.mem_cons_of_mem _ hq)
    refine ⟨List.mem_filter.2 ⟨hq'.1, ?_⟩, hq'.2⟩
    have : q ≠ r := fun e => hn1 (e ▸ hq)
    simpa using this
  · rw [hr] at hl; cases hl

theorem leaves_sx {fn : Func} {R : Value → World → Prop} {tmps : Array Value} (g : Good cx) (hr : cx.rnd = none) (hp0 : cx.pn = []) :
    ∀ (ms : List Nat) (β : Va) (w : World), β.marks = ms → Inv cx β n env H F { tmps, defers := ms.map (fun r => { target := .collected r, args := #[] }) } w → RetWP cx fn.results.toList R n env H F →
      LeavesInM cx.fence 0 cx.P fn tmps (fun e w' => ∃ v, e = .returned v ∧ R v w') (ms.map (fun r => { target := .collected r, args := #[] })) .returning w
  | [], β, w, hm, h, hp => by
    have hp' := hp
    unfold RetWP at hp
    split at hp
    · rename_i l hl
      have hrun := resOf_sound g h _ l hl
      refine ⟨retVal β l, ?_, _, rfl, hp β w h.sat⟩
      have hres : results fn tmps = (do let vs ← fn.results.mapM (rvSem tmps); pure (if h : vs.size = 1 then vs[0] else .tuple vs)) := rfl
      rw [hres, Array.mapM_eq_mapM_toList]
      simp only [map_eq_pure_bind, Sem.run_bind, hrun, Result.andThen_ok, Sem.run_pure]
      congr 1
      match l with
      | [] => rfl
      | [s] => rfl
      | s :: t :: r => simp [retVal]
    · exact hp.elim
  | r :: rs, β, w, hm, h, hp => by
    have hpin := (h.sat.pin _ (h.sat.mrk.2 r (by rw [hm]; exact List.mem_cons_self)).1).1
    refine ⟨by simp, .inl ⟨r, _, rfl, run_takeDeferred hpin, ?_⟩⟩
    exact leaves_sx g hr hp0 rs ⟨β.b, β.pins.filter (fun p => !(p.1 == r)), rs⟩ _ rfl ⟨fun t s ht => h.ag t s ht, h.size, rfl, h.lte, h.sat.unpin hr hp0 hm _⟩ hp

theorem calls_of_sx {f : FuncId} {fn : Func} {c : Code} {R : Value → World → Prop} (g : Good cx) (hf : cx.P.funcs[f]? = some fn) (hb : fn.body = some c) (hN : fn.ntmps = cx.N)
    {β : Va} (svs : List SV) (n : Nat) (H : List Bk) (F : List Fact) (hlen : Nat.ble svs.length cx.N = true) (hltB : allLt n svs = true) (hs : Sat cx β n H F w)
    (hw : cwp cx c (fnPost cx fn.results.toList R) n (pairs 0 svs) H F) (hr : cx.rnd = none := by rfl) (hm : β.marks = [] := by rfl) (hp0 : cx.pn = [] := by rfl) :
    Calls cx.P f (svs.map (SV.val β)).toArray w fun e w' => ∃ v, e = .returned v ∧ R v w' := by
  have hfe : cx.fence = Fence.wide := by unfold Cx.fence; rw [hr]
  refine (callsIn_wide (n := 0)).1 (callsIn_of_wp_marks hf hb trivial ?_)
  have hlt := allLt_mem hltB
  have hlen' : svs.length ≤ cx.N := Nat.le_of_ble_eq_true hlen
  have hi : Inv cx β n (pairs 0 svs) H F { tmps := (svs.map (SV.val β)).toArray ++ Array.replicate (fn.ntmps - (svs.map (SV.val β)).toArray.size) undef, defers := [] } w := by
    refine ⟨fun t s ht => ?_, ?_, by rw [hm]; rfl, fun t s ht => ?_, hs⟩
    · obtain ⟨j, rfl, hj⟩ := pairs_get svs 0 t s ht
      have hjl : j < svs.length := (List.getElem?_eq_some_iff.1 hj).1
      rw [Array.getElem?_append_left (by simp; omega)]
      simp [hj]
    · simp [hN]; omega
    · obtain ⟨j, rfl, hj⟩ := pairs_get svs 0 t s ht
      exact hlt s (List.mem_of_getElem? hj)
  have h0 := (cwp_sound g c _ n _ H F hw).run β _ w hi
  rw [hfe] at h0
  refine wpIn_mono h0 fun e a' w' hq => ?_
  have key : After cx (RetWP cx fn.results.toList R) a' w' → LeavesInM Fence.wide 0 cx.P fn a'.tmps (fun e w' => ∃ v, e = .returned v ∧ R v w') a'.defers .returning w' := by
    rintro ⟨β', n', env', H', F', h', hp⟩
    rw [← hfe]
    have hd := h'.df
    obtain ⟨tmps, defers⟩ := a'
    simp only at hd
    subst hd
    exact leaves_sx g hr hp0 _ β' w' rfl h' hp
  cases e with
  | normal => exact key hq
  | ret => exact key hq
  | exit id => obtain ⟨_, _, _, _, _, _, hq⟩ := hq; exact hq.elim
  | goto l => obtain ⟨_, _, _, _, _, _, hq⟩ := hq; exact hq.elim
  | panic ch => exact hq.elim
  | outgrown => exact hq.elim
end
end Go.Proofs.YthkjfepbmnabkaaDoor.Sx
