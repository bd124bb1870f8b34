/- Copies into rows; writes into maps. -/
import Derived.Test.YthkjfepbmnabkaaDoorSxArr
namespace Go.Proofs.YthkjfepbmnabkaaDoor.Sx
open Go

section
variable {cx : Cx} {β : Va} {n : Nat} {env : Env} {H : List Bk} {F : List Fact} {w : World}
theorem Rd.take {A : Option Addr} {m : Nat} {ys : List Value} (h : Rd 1 A m ys w) {k : Nat} (hk : k ≤ m) : Rd 1 A k (ys.take k) w := by
  refine ⟨?_, fun hp => ?_⟩
  · rw [List.length_take, h.1]; omega
  · obtain ⟨ad, q, hc⟩ := h.2 (by omega)
    refine ⟨ad, q, fun j u hu => hc j u ?_⟩
    rw [List.getElem?_take] at hu
    split at hu
    · exact hu
    · cases hu
/-- copy, into a row of one's own, of cells of one. -/
theorem Sat.copyRow (h : Sat cx β n H F w) (g : Good cx) (j : Nat) {b k c e m cs r : Nat} {A : Option Addr} {xs ys : List Value} (hj : nth F j = some (rowF e 1 (.slice (some ⟨b, 0, none⟩) k c) k xs)) (hr : Rd 1 A m ys w) (h1 : ∀ u ∈ ys, u.oneCell' = true)
    {t : TypeId} {i ie : TI} (ty : TypeId) (cst : Array Bool) (hm : min m k = r) (hi : lk cx.tt t = some i := by rfl) (hd : i.desc = .slice e := by rfl) (hie : lk cx.tt e = some ie := by rfl) (hz : ie.size = 1 := by rfl) :
    ∃ w', (builtin .copy #[t, t] ty cst #[.slice (some ⟨b, 0, none⟩) k c, .slice A m cs]).run cx.P w = .ok (.value (.int .i64 (r : Int))) w' ∧
      Sat cx β n H (putAt F j (rowF e 1 (.slice (some ⟨b, 0, none⟩) k c) k (putAll xs 0 (ys.take r)))) w' := by
  subst hm
  have ht := (g.ti hi).real (d := .slice _) hd rfl
  have tie := g.ti hie
  have hrt := hr.take (k := min m k) (Nat.min_le_left _ _)
  have hsz := tie.run_size w
  rw [hz] at hsz
  have hfc : (Builtin.firstCells 1 (min m k) (.slice A m cs)).run cx.P w = .ok (ys.take (min m k)).toArray w := by
    cases A with
    | none =>
      have h0 : min m k = 0 := by
        rcases Nat.eq_zero_or_pos (min m k) with q | q
        · exact q
        · obtain ⟨ad, q, _⟩ := hrt.2 q; cases q
      rw [h0]
      rfl
    | some ad =>
      have hl := run_loadCells_list (P := cx.P) (w := w) ad (ys.take (min m k)) (fun j u hu => by
        have hp : 0 < min m k := by
          rcases Nat.eq_zero_or_pos (min m k) with q | q
          · rw [q] at hu; simp at hu
          · exact q
        obtain ⟨ad', q, hc⟩ := hrt.2 hp
        obtain rfl := Option.some.inj q
        exact hc j u hu)
      have hlen : (ys.take (min m k)).length = min m k := by rw [hrt.1, Nat.mul_one]
      rw [hlen] at hl
      simpa [Builtin.firstCells] using hl
  obtain ⟨w', e1, e2⟩ := h.rowSet (us := ys.take (min m k)) (o := 0) hj (by rw [hrt.1]; have := Nat.min_le_right m k; omega) (fun u hu => h1 u (List.take_subset _ _ hu))
  rw [add_none, Nat.zero_add] at e1
  refine ⟨w', ?_, e2⟩
  have hmin : Nat.min m k = min m k := rfl
  simp [builtin, Builtin.copy_, run_underlying ht, Builtin.lenOf, hsz, hfc, e1, goInt, hmin]

/-- A map of one's own is written. -/
theorem Sat.mapPut (h : Sat cx β n H F w) (g : Good cx) (j : Nat) {b : Nat} {l : ML} (hj : nth F j = some (mapF b l)) {t kt et : TypeId} {i ik : TI} (s : ByteArray) (v : Value) (hi : lk cx.tt t = some i := by rfl) (hd : i.desc = .map kt et := by rfl) (hik : lk cx.tt kt = some ik := by rfl) (hdk : ik.desc = .string := by rfl) :
    ∃ w', (Instr.mapUpdate t (.map (some b)) (.string s) v).run cx.P w = .ok () w' ∧ Sat cx β n H (putAt F j (mapF b (mput l s v))) w' := by
  obtain ⟨o, e1, e2⟩ := run_put (P := cx.P) ((g.ti hi).real (d := .map _ _) hd rfl) ((g.ti hik).real (d := .string) hdk rfl) (h.get j hj) s v
  exact ⟨_, e1, h.upd hj rfl (chg_put o) e2 (fun k hk => .inl hk)⟩
theorem muwp_put (g : Good cx) (j : Nat) {t kt et : TypeId} {m k x : Operand} {b : Nat} {l : ML} {s : ByteArray} {v : Value} {K : KT} {i ik : TI} (hj : nth F j = some (mapF b l)) (hK : K n env H (putAt F j (mapF b (mput l s v))))
    (hm : ev env m = some (.c (.v (.map (some b)))) := by rfl) (hk : ev env k = some (.c (.v (.string s))) := by rfl) (hx : ev env x = some (.c (.v v)) := by rfl) (hi : lk cx.tt t = some i := by rfl) (hd : i.desc = .map kt et := by rfl) (hik : lk cx.tt kt = some ik := by rfl) (hdk : ik.desc = .string := by rfl) :
    muwp cx n env H F none t m k x K := by
  unfold muwp
  rw [hm, hk, hx]
  exact ⟨H, fun _ => putAt F j (mapF b (mput l s v)), fun β w hs => by
    obtain ⟨w', e1, e2⟩ := hs.mapPut g j hj s v hi hd hik hdk
    exact ⟨w', 0, e1, e2⟩, fun _ => hK⟩
/-- A store into a block that is known whole. -/
theorem Sat.bkSet (h : Sat cx β n H F w) (j : Nat) {b ty o : Nat} {cs us : List Value} (hj : nth F j = some (bkF b ty cs)) (hl : o + us.length ≤ cs.length) (h1 : ∀ u ∈ us, u.oneCell' = true) :
    ∃ w', (storeCells ((⟨b, 0, none⟩ : Addr).add o) us 0).run cx.P w = .ok () w' ∧ Sat cx β n H (putAt F j (bkF b ty (putAll cs o us))) w' := by
  have hb : w.heap[b]? = some (.cells cs.toArray ty (0, 0)) := h.get j hj
  obtain ⟨w', e1, e2, e3, e4⟩ := run_storeCells (P := cx.P) b ty us o 0 w cs hb h1 (by omega)
  refine ⟨w', by rw [add_none, Nat.zero_add]; exact e1, h.upd hj rfl (Chg.mono e3 (fun i _ q => by subst q; rfl)) ?_ (fun q hq => .inl hq)⟩
  show w'.heap[b]? = _
  rw [e2, Nat.add_zero]
end
end Go.Proofs.YthkjfepbmnabkaaDoor.Sx
