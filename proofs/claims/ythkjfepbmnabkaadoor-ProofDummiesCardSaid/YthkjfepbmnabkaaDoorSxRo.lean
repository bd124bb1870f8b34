/- Soundness of the operations that leave the world alone. -/
import Derived.Test.YthkjfepbmnabkaaDoorSxOps
import Derived.Laws.BytesArg
import Derived.Laws.Cells
namespace Go.Proofs.YthkjfepbmnabkaaDoor.Sx
open Go

def nres (op : BinOp) (b : Bool) : Bool := match op with | .eql => b | _ => !b

section
variable {P : Program} {t : TypeId}
theorem run_eqlP (x y : Value) (b : Bool) (op : BinOp) (w : World)
    (h : ∀ k, (Op.equalIn (k + 1) t x y).run P w = .ok b w)
    (hi : ∀ k i l j, ¬ (x = .int k i ∧ y = .int l j)) (hs : ∀ s u, ¬ (x = .string s ∧ y = .string u)) (hf : ∀ k i l j, ¬ (x = .float k i ∧ y = .float l j)) (hcx : ∀ k i j l m p, ¬ (x = .complex k i j ∧ y = .complex l m p)) (hop : op = .eql ∨ op = .neq) :
    (binOp op t x y).run P w = .ok (.bool (nres op b)) w := by
  have h1 : (Op.equal t x y).run P w = .ok b w := h 9999
  rcases hop with rfl | rfl
  · cases x <;> cases y <;> first
      | (exfalso; exact hi _ _ _ _ ⟨rfl, rfl⟩)
      | (exfalso; exact hs _ _ ⟨rfl, rfl⟩)
      | (exfalso; exact hf _ _ _ _ ⟨rfl, rfl⟩)
      | (exfalso; exact hcx _ _ _ _ _ _ ⟨rfl, rfl⟩)
      | (simp only [binOp, Sem.run_bind, h1, Result.andThen_ok, Sem.run_pure, nres]; done)
  · cases x <;> cases y <;> first
      | (exfalso; exact hi _ _ _ _ ⟨rfl, rfl⟩)
      | (exfalso; exact hs _ _ ⟨rfl, rfl⟩)
      | (exfalso; exact hf _ _ _ _ ⟨rfl, rfl⟩)
      | (exfalso; exact hcx _ _ _ _ _ _ ⟨rfl, rfl⟩)
      | (simp only [binOp, Sem.run_bind, h1, Result.andThen_ok, Sem.run_pure, nres]; done)
end

/-- What a binary operation of the model does, its guard with it. -/
def binSem (op : BinOp) (t : TypeId) (x y : Operand) (a b : Value) : Sem Value := do eqGuard op t x y a b; binOp op t a b

theorem run_eqGuard_plain {P : Program} (op : BinOp) (t : TypeId) (x y : Operand) (a b : Value) (w : World) (h1 : ¬ (a = .nilIface ∧ b = .nilIface)) (h2 : ∀ l m, ¬ (a = .agg l ∧ b = .agg m)) :
    (eqGuard op t x y a b).run P w = .ok () w := by
  unfold eqGuard
  split
  · rw [if_neg (by decide)]
    split
    · exact (h1 ⟨rfl, rfl⟩).elim
    · exact (h2 _ _ ⟨rfl, rfl⟩).elim
    · rfl
  · rw [if_neg (by decide)]
    split
    · exact (h1 ⟨rfl, rfl⟩).elim
    · exact (h2 _ _ ⟨rfl, rfl⟩).elim
    · rfl
  · rfl

theorem binSem_plain {P : Program} (op : BinOp) (t : TypeId) (x y : Operand) (a b : Value) (w : World) (h1 : ¬ (a = .nilIface ∧ b = .nilIface)) (h2 : ∀ l m, ¬ (a = .agg l ∧ b = .agg m)) :
    (binSem op t x y a b).run P w = (binOp op t a b).run P w := by
  simp [binSem, run_eqGuard_plain op t x y a b w h1 h2]

theorem intwp_sound {P : Program} {t : TypeId} {op : BinOp} {k : IntKind} {x y : Int} {kk : SV → Prop} (hp : intwp op k x y kk) :
    ∃ r, (∀ n, SV.lt n r) ∧ kk r ∧ ∀ (β : Va) (w : World), (binOp op t (.int k x) (.int k y)).run P w = .ok (r.val β) w := by
  cases op <;> simp only [intwp] at hp
  case add => obtain ⟨r, rfl, hk⟩ := hp; exact ⟨.c (.v _), fun _ => trivial, hk, fun _ _ => by simp [go_sem, Op.intArith, SV.val, SL.val]⟩
  case sub => obtain ⟨r, rfl, hk⟩ := hp; exact ⟨.c (.v _), fun _ => trivial, hk, fun _ _ => by simp [go_sem, Op.intArith, SV.val, SL.val]⟩
  case mul => obtain ⟨r, rfl, hk⟩ := hp; exact ⟨.c (.v _), fun _ => trivial, hk, fun _ _ => by simp [go_sem, Op.intArith, SV.val, SL.val]⟩
  case quo => obtain ⟨h0, r, rfl, hk⟩ := hp; exact ⟨.c (.v _), fun _ => trivial, hk, fun _ _ => by simp [go_sem, Op.intDiv, SV.val, SL.val, h0]⟩
  case rem => obtain ⟨h0, r, rfl, hk⟩ := hp; exact ⟨.c (.v _), fun _ => trivial, hk, fun _ _ => by simp [go_sem, Op.intDiv, SV.val, SL.val, h0]⟩
  case and => obtain ⟨r, rfl, hk⟩ := hp; exact ⟨.c (.v _), fun _ => trivial, hk, fun _ _ => by simp [binOp_and, Op.intBits, bits, SV.val, SL.val]⟩
  case or => obtain ⟨r, rfl, hk⟩ := hp; exact ⟨.c (.v _), fun _ => trivial, hk, fun _ _ => by simp [binOp_or, Op.intBits, bits, SV.val, SL.val]⟩
  case xor => obtain ⟨r, rfl, hk⟩ := hp; exact ⟨.c (.v _), fun _ => trivial, hk, fun _ _ => by simp [binOp_xor, Op.intBits, bits, SV.val, SL.val]⟩
  case andNot => obtain ⟨r, rfl, hk⟩ := hp; exact ⟨.c (.v _), fun _ => trivial, hk, fun _ _ => by simp [binOp_andNot, Op.intBits, bits, SV.val, SL.val]⟩
  case eql => exact ⟨.c (.v _), fun _ => trivial, hp, fun _ _ => by simp only [binOp_eql, SV.val, SL.val, Sem.run_pure]; congr 2⟩
  case neq =>
    refine ⟨.c (.v _), fun _ => trivial, hp, fun _ _ => ?_⟩
    simp only [binOp_neq, SV.val, SL.val, Sem.run_pure]
    congr 2
  case lss => exact ⟨.c (.v _), fun _ => trivial, hp, fun _ _ => by simp only [binOp_lss, SV.val, SL.val, Sem.run_pure]⟩
  case leq => exact ⟨.c (.v _), fun _ => trivial, hp, fun _ _ => by simp only [binOp_leq, SV.val, SL.val, Sem.run_pure]⟩
  case gtr => exact ⟨.c (.v _), fun _ => trivial, hp, fun _ _ => by simp only [binOp_gtr, SV.val, SL.val, Sem.run_pure]⟩
  case geq => exact ⟨.c (.v _), fun _ => trivial, hp, fun _ _ => by simp only [binOp_geq, SV.val, SL.val, Sem.run_pure]⟩

theorem shwp_sound {P : Program} {t : TypeId} {op : BinOp} {k l : IntKind} {x y : Int} {kk : SV → Prop} (hp : shwp op k x y kk) :
    ∃ r, (∀ n, SV.lt n r) ∧ kk r ∧ ∀ (β : Va) (w : World), (binOp op t (.int k x) (.int l y)).run P w = .ok (r.val β) w := by
  cases op <;> simp only [shwp] at hp
  case shl => obtain ⟨h0, r, rfl, hk⟩ := hp; exact ⟨.c (.v _), fun _ => trivial, hk, fun _ _ => by simp [binOp_shl, Op.shift, SV.val, SL.val, Int.not_lt.2 h0]⟩
  case shr => obtain ⟨h0, r, rfl, hk⟩ := hp; exact ⟨.c (.v _), fun _ => trivial, hk, fun _ _ => by simp [binOp_shr, Op.shift, SV.val, SL.val, Int.not_lt.2 h0]⟩

theorem strwp_sound {P : Program} {t : TypeId} {op : BinOp} {x y : ByteArray} {kk : SV → Prop} (hp : strwp op x y kk) :
    ∃ r, (∀ n, SV.lt n r) ∧ kk r ∧ ∀ (β : Va) (w : World), (binOp op t (.string x) (.string y)).run P w = .ok (r.val β) w := by
  cases op <;> simp only [strwp] at hp
  case add =>
    obtain ⟨h0, hk⟩ := hp
    refine ⟨.c (.v _), fun _ => trivial, hk, fun _ _ => ?_⟩
    have : ¬ (((x.size + y.size : Nat) : Int) > IntKind.i64.max) := by simp only [maxLen] at h0; simp only [IntKind.max, IntKind.signed, IntKind.bits]; omega
    simp only [binOp_string_add, Op.stringOp, SV.val, SL.val, if_neg this, Sem.run_pure]
  case eql => exact ⟨.c (.v _), fun _ => trivial, hp, fun _ _ => by simp only [binOp_string_eql, SV.val, SL.val, Sem.run_pure, byteArray_beq]⟩
  case neq => exact ⟨.c (.v _), fun _ => trivial, hp, fun _ _ => by simp only [binOp_string_neq, SV.val, SL.val, Sem.run_pure, byteArray_beq]⟩
  case lss => exact ⟨.c (.v _), fun _ => trivial, hp, fun _ _ => by simp only [binOp, Op.stringOp, SV.val, SL.val, Sem.run_pure]⟩
  case leq => exact ⟨.c (.v _), fun _ => trivial, hp, fun _ _ => by simp only [binOp, Op.stringOp, SV.val, SL.val, Sem.run_pure, byteArray_beq]⟩
  case gtr => exact ⟨.c (.v _), fun _ => trivial, hp, fun _ _ => by simp only [binOp, Op.stringOp, SV.val, SL.val, Sem.run_pure, byteArray_beq]⟩
  case geq => exact ⟨.c (.v _), fun _ => trivial, hp, fun _ _ => by simp only [binOp, Op.stringOp, SV.val, SL.val, Sem.run_pure]⟩

theorem nilwp_sound {op : BinOp} {b : Bool} {kk : SV → Prop} (hp : nilwp op b kk) : (op = .eql ∨ op = .neq) ∧ kk (bl (nres op b)) := by
  cases op <;> simp only [nilwp] at hp
  · exact ⟨.inl rfl, hp⟩
  · exact ⟨.inr rfl, hp⟩

theorem binwp_sound {P : Program} {t : TypeId} {i : TI} (ti : TiOk P t i) {op : BinOp} {s u : SV} {kk : SV → Prop} (x y : Operand) (hp : binwp i.desc op s u kk) :
    ∃ r, (∀ n, SV.lt n r) ∧ kk r ∧ ∀ (β : Va) (w : World), (binSem op t x y (s.val β) (u.val β)).run P w = .ok (r.val β) w := by
  have nilcase : ∀ (b : Bool) (va vb : Va → Value), nilwp op b kk → (∀ β k w, (Op.equalIn (k + 1) t (va β) (vb β)).run P w = .ok b w) →
      (∀ β k i, va β ≠ .int k i) → (∀ β s, va β ≠ .string s) → (∀ β k i, va β ≠ .float k i) → (∀ β k i j, va β ≠ .complex k i j) → (∀ β, va β ≠ .nilIface) → (∀ β l, va β ≠ .agg l) →
      ∃ r, (∀ n, SV.lt n r) ∧ kk r ∧ ∀ (β : Va) (w : World), (binSem op t x y (va β) (vb β)).run P w = .ok (r.val β) w := by
    intro b va vb hn he h1 h2 h3 h4 h5 h6
    obtain ⟨hop, hk⟩ := nilwp_sound hn
    refine ⟨.c (.v _), fun _ => trivial, hk, fun β w => ?_⟩
    rw [binSem_plain op t x y _ _ w (fun q => h5 β q.1) (fun l m q => h6 β l q.1)]
    exact run_eqlP _ _ b op w (fun k => he β k w) (fun k i l j q => h1 β k i q.1) (fun s u q => h2 β s q.1) (fun k i l j q => h3 β k i q.1) (fun k i j l m p q => h4 β k i j q.1) hop
  unfold binwp at hp
  split at hp
  · rename_i k xx l yy
    have hpl : ∀ β w, (binSem op t x y ((SV.c (.v (.int k xx))).val β) ((SV.c (.v (.int l yy))).val β)).run P w = (binOp op t (.int k xx) (.int l yy)).run P w :=
      fun β w => binSem_plain op t x y _ _ w (fun q => by cases q.1) (fun _ _ q => by cases q.1)
    split at hp
    · obtain ⟨r, h1, h2, h3⟩ := shwp_sound (P := P) (t := t) (l := l) hp
      exact ⟨r, h1, h2, fun β w => by rw [hpl]; exact h3 β w⟩
    · obtain ⟨r, h1, h2, h3⟩ := shwp_sound (P := P) (t := t) (l := l) hp
      exact ⟨r, h1, h2, fun β w => by rw [hpl]; exact h3 β w⟩
    · split at hp
      · rename_i he
        obtain rfl := ikEq_eq he
        obtain ⟨r, h1, h2, h3⟩ := intwp_sound (P := P) (t := t) hp
        exact ⟨r, h1, h2, fun β w => by rw [hpl]; exact h3 β w⟩
      · exact hp.elim
  · rename_i xx yy
    obtain ⟨r, h1, h2, h3⟩ := strwp_sound (P := P) (t := t) hp
    exact ⟨r, h1, h2, fun β w => by rw [binSem_plain op t x y _ _ w (fun q => by cases q.1) (fun _ _ q => by cases q.1)]; exact h3 β w⟩
  · split at hp
    · rename_i hd
      have hu := fun w => run_underlying (P := P) (ti.real (d := .pointer _) hd rfl) w
      exact nilcase _ _ _ hp (fun β k w => by simp [Op.equalIn, hu, SV.val, SL.val]) (fun _ _ _ q => by cases q) (fun _ _ q => by cases q) (fun _ _ _ q => by cases q) (fun _ _ _ _ q => by cases q) (fun _ q => by cases q) (fun _ _ q => by cases q)
    · exact hp.elim
  · split at hp
    · rename_i p _ _ hd
      have hu := fun w => run_underlying (P := P) (ti.real (d := .pointer _) hd rfl) w
      exact nilcase _ _ _ hp (fun β k w => by cases p <;> simp [Op.equalIn, hu, SV.val, SL.val]) (fun _ _ _ q => by cases q) (fun _ _ q => by cases q) (fun _ _ _ q => by cases q) (fun _ _ _ _ q => by cases q) (fun _ q => by cases q) (fun _ _ q => by cases q)
    · exact hp.elim
  · split at hp
    · rename_i p _ _ _ _ _ _ hd
      have hu := fun w => run_underlying (P := P) (ti.real (d := .slice _) hd rfl) w
      exact nilcase _ _ _ hp (fun β k w => by cases p <;> simp [Op.equalIn, hu, SV.val, SL.val]) (fun _ _ _ q => by cases q) (fun _ _ q => by cases q) (fun _ _ _ q => by cases q) (fun _ _ _ _ q => by cases q) (fun _ q => by cases q) (fun _ _ q => by cases q)
    · exact hp.elim
  · split at hp
    · rename_i p _ _ _ hd
      have hu := fun w => run_underlying (P := P) (ti.real (d := .map _ _) hd rfl) w
      exact nilcase _ _ _ hp (fun β k w => by cases p <;> simp [Op.equalIn, hu, SV.val, SL.val]) (fun _ _ _ q => by cases q) (fun _ _ q => by cases q) (fun _ _ _ q => by cases q) (fun _ _ _ _ q => by cases q) (fun _ q => by cases q) (fun _ _ q => by cases q)
    · exact hp.elim
  · split at hp
    · rename_i hd
      have hu := fun w => run_underlying (P := P) (ti.real (d := .bool) hd rfl) w
      exact nilcase _ _ _ hp (fun β k w => by simp [Op.equalIn, hu, SV.val, SL.val]) (fun _ _ _ q => by cases q) (fun _ _ q => by cases q) (fun _ _ _ q => by cases q) (fun _ _ _ _ q => by cases q) (fun _ q => by cases q) (fun _ _ q => by cases q)
    · exact hp.elim
  · exact hp.elim

theorem unwp_sound {P : Program} {op : UnOp} {s : SV} {kk : SV → Prop} (hp : unwp op s kk) :
    ∃ r, (∀ n, SV.lt n r) ∧ kk r ∧ ∀ (β : Va) (w : World), (Op.unary op (s.val β)).run P w = .ok (r.val β) w := by
  unfold unwp at hp
  split at hp
  · exact ⟨.c (.v _), fun _ => trivial, hp, fun β w => by simp [Op.unary, SV.val, SL.val]⟩
  · obtain ⟨r, rfl, hk⟩ := hp; exact ⟨.c (.v _), fun _ => trivial, hk, fun β w => by simp [Op.unary, Op.intArith, SV.val, SL.val]⟩
  · obtain ⟨r, rfl, hk⟩ := hp; exact ⟨.c (.v _), fun _ => trivial, hk, fun β w => by simp [Op.unary, Op.intBits, bits, SV.val, SL.val]⟩
  · exact hp.elim

/-! ### memory that is read -/
theorem add_none (b o j : Nat) : (⟨b, o, none⟩ : Addr).add j = ⟨b, o + j, none⟩ := by
  unfold Addr.add
  split
  · rename_i h; subst h; rfl
  · rfl

theorem takeAt_spec {α : Type} : ∀ (k : Nat) (l : List α) (o : Nat) (r : List α), takeAt l o k = some r → r.length = k ∧ ∀ j u, r[j]? = some u → l[o + j]? = some u
  | 0, l, o, r, h => by
    simp only [takeAt, Option.some.injEq] at h
    subst h
    exact ⟨rfl, fun j u hj => by simp at hj⟩
  | k + 1, l, o, r, h => by
    simp only [takeAt] at h
    split at h
    · cases h
    · rename_i x hx
      split at h
      · cases h
      · rename_i r' hr
        simp only [Option.some.injEq] at h
        subst h
        obtain ⟨h1, h2⟩ := takeAt_spec k l (o + 1) r' hr
        refine ⟨by simp [h1], fun j u hj => ?_⟩
        cases j with
        | zero =>
          simp only [List.getElem?_cons_zero, Option.some.injEq] at hj
          subst hj
          rw [nth_eq] at hx
          simpa using hx
        | succ j =>
          have := h2 j u (by simpa using hj)
          rw [← this]; congr 1; omega

theorem Sat.row {cx : Cx} {β : Va} {n : Nat} {H : List Bk} {F : List Fact} {w : World} (h : Sat cx β n H F w) {i : Nat} {cs : List SL} (hc : cellsAt H i = some cs) {o k : Nat} {xs : List SL} (hx : takeAt cs o k = some xs) :
    ∀ j u, (xs.map (SL.val β))[j]? = some u → w.cell? ((⟨β i, o, none⟩ : Addr).add j) = some u := by
  intro j u hj
  simp only [List.getElem?_map, Option.map_eq_some_iff] at hj
  obtain ⟨x, hxj, rfl⟩ := hj
  rw [add_none]
  exact h.cell hc (o + j) (by rw [nth_eq]; exact (takeAt_spec k cs o xs hx).2 j x hxj)

theorem run_loadVar1 {P : Program} {t : TypeId} {i : TI} (ti : TiOk P t i) (hg : i.agg = false) (w : World) (ad : Addr) (x : Value) (h : w.cell? ad = some x) : (loadVar t ad).run P w = .ok x w := by
  simp [loadVar, ti.run_agg, hg, run_load, h]
theorem run_loadVarN {P : Program} {t : TypeId} {i : TI} (ti : TiOk P t i) (hg : i.agg = true) (w : World) (ad : Addr) (xs : List Value) (hl : xs.length = i.size) (h : ∀ j u, xs[j]? = some u → w.cell? (ad.add j) = some u) :
    (loadVar t ad).run P w = .ok (.agg xs.toArray) w := by
  have h1 := run_loadCells_list (P := P) (w := w) ad xs h
  rw [hl] at h1
  simp [loadVar, ti.run_agg, hg, ti.run_size, h1]

theorem ldwp_sound {cx : Cx} (g : Good cx) {n : Nat} {H : List Bk} {F : List Fact} {t : TypeId} {s : SV} {kk : SV → Prop} (hs : s.lt n) (hp : ldwp cx n H F t s kk) {β : Va} {w0 : World} (h0 : Sat cx β n H F w0) :
    ∃ r, SV.lt n r ∧ kk r ∧ ∀ w, Sat cx β n H F w → (Instr.loadAt t (s.val β)).run cx.P w = .ok (r.val β) w := by
  unfold ldwp at hp
  split at hp
  · rename_i i hi
    have ti := g.ti hi
    split at hp
    · rename_i id o hg
      split at hp
      · rename_i cs hc
        split at hp
        · rename_i x hx
          obtain ⟨b, hb, hbi, hbc⟩ := cellsAt_mem hc
          refine ⟨.c x, ?_, hp, fun w hw => ?_⟩
          · have := (h0.ltb b hb).2 x (by rw [hbc]; rw [nth_eq] at hx; exact List.mem_of_getElem? hx)
            exact this
          · simp only [SV.val, SL.val, Instr.loadAt, Instr.sureAddr, pure_bind]
            exact run_loadVar1 ti hg w _ _ (hw.cell hc o hx)
        · exact hp.elim
      · exact hp.elim
    · rename_i id o hg
      split at hp
      · rename_i cs hc
        split at hp
        · rename_i xs hx
          obtain ⟨b, hb, hbi, hbc⟩ := cellsAt_mem hc
          refine ⟨.agg xs, ?_, hp, fun w hw => ?_⟩
          · intro x hxm
            obtain ⟨j, hj⟩ := List.getElem?_of_mem hxm
            have := (takeAt_spec _ _ _ _ hx).2 j x hj
            exact (h0.ltb b hb).2 x (by rw [hbc]; exact List.mem_of_getElem? this)
          · simp only [SV.val, SL.val, Instr.loadAt, Instr.sureAddr, pure_bind]
            exact run_loadVarN ti hg w _ _ (by rw [List.length_map]; exact (takeAt_spec _ _ _ _ hx).1) (hw.row hc hx)
        · exact hp.elim
      · exact hp.elim
    · rename_i a hg
      obtain ⟨x, hx, hk⟩ := hp
      refine ⟨.c (.v x), trivial, hk, fun w hw => ?_⟩
      simp only [SV.val, SL.val, Instr.loadAt, Instr.sureAddr, pure_bind]
      exact run_loadVar1 ti hg w _ _ (hx β w hw)
    · rename_i a hg
      obtain ⟨xs, hl, hx, hk⟩ := hp
      refine ⟨.agg (xs.map SL.v), ?_, hk, fun w hw => ?_⟩
      · intro y hy
        obtain ⟨z, _, rfl⟩ := List.mem_map.1 hy
        trivial
      · simp only [SV.val, SL.val, Instr.loadAt, Instr.sureAddr, pure_bind, List.map_map]
        have : List.map (SL.val β ∘ SL.v) xs = xs := by simp [Function.comp_def, SL.val]
        rw [this]
        exact run_loadVarN ti hg w _ _ hl (hx β w hw)
    · exact hp.elim
  · exact hp.elim

/-! ### cuts, places -/
theorem optInt_sound {cx : Cx} {β : Va} {n : Nat} {env : Env} {H : List Bk} {F : List Fact} {a : Act} {w : World} (h : Inv cx β n env H F a w) {x : Option Operand} {i : Option Int} (hi : optInt env x = some i) :
    (x = none ∧ i = none) ∨ ∃ k j, x.map a.eval = some (.int k j) ∧ i = some j := by
  cases x with
  | none => simp only [optInt, Option.some.injEq] at hi; exact .inl ⟨rfl, hi.symm⟩
  | some x =>
    simp only [optInt] at hi
    split at hi
    · rename_i k j he
      simp only [Option.some.injEq] at hi
      exact .inr ⟨k, j, by rw [Option.map_some, (h.ev he).1]; rfl, hi.symm⟩
    · cases hi

theorem run_bound {P : Program} {w : World} {k : IntKind} {j : Int} {l y : Nat} (hj : j = (l : Int)) (hl : l ≤ y) (code : BoundsCode) : (Instr.sliceBound (.int k j) y code).run P w = .ok l w := by
  subst hj
  simp [Instr.sliceBound, asIntOf, hl]

theorem run_bounds {P : Program} {w : World} {cx : Cx} {β : Va} {n : Nat} {env : Env} {H : List Bk} {F : List Fact} {a : Act} {u : World} (h : Inv cx β n env H F a u) {lo hi mx : Option Operand} {ilo ihi imx : Option Int}
    (hlo : optInt env lo = some ilo) (hhi : optInt env hi = some ihi) (hmx : optInt env mx = some imx) {len cap m hh l : Nat} (b : Bool)
    (hm : isNat imx cap m) (hh' : isNat ihi len hh) (hl : isNat ilo 0 l) (h1 : m ≤ cap) (h2 : hh ≤ m) (h3 : l ≤ hh) (hno : mx.isSome = true → hi.isSome = true) :
    (Instr.sliceBounds b len cap (lo.map a.eval) (hi.map a.eval) (mx.map a.eval)).run P w = .ok (l, hh, m) w := by
  have b1 : ∀ k c, (Instr.sliceBound (.int k (l : Int)) hh c).run P w = .ok l w := fun k c => run_bound rfl h3 c
  have b2 : ∀ k c, (Instr.sliceBound (.int k (hh : Int)) m c).run P w = .ok hh w := fun k c => run_bound rfl h2 c
  have b3 : ∀ k c, (Instr.sliceBound (.int k (m : Int)) cap c).run P w = .ok m w := fun k c => run_bound rfl h1 c
  rcases optInt_sound h hmx with ⟨rfl, rfl⟩ | ⟨km, jm, em, rfl⟩ <;> rcases optInt_sound h hhi with ⟨rfl, rfl⟩ | ⟨kh, jh, eh, rfl⟩ <;> rcases optInt_sound h hlo with ⟨rfl, rfl⟩ | ⟨kl, jl, el, rfl⟩ <;>
    simp only [isNat] at hm hh' hl <;>
    (first
      | (exfalso; cases mx <;> simp at em hno; done)
      | (try subst hm
         try subst hh'
         try subst hl
         try simp only [*]
         simp [Instr.sliceBounds, *]))
end Go.Proofs.YthkjfepbmnabkaaDoor.Sx
