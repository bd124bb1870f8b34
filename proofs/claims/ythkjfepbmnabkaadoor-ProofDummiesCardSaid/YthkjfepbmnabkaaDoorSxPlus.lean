/- What was there before; contracts out of plain calls. -/
import Derived.Test.YthkjfepbmnabkaaDoorSxOpen
import Derived.Test.YthkjfepbmnabkaaDoorSxIt
namespace Go.Proofs.YthkjfepbmnabkaaDoor.Sx
open Go
attribute [local irreducible] Calls

/-- All that was there at the beginning, as it was. -/
def oldF (W0 : World) : Fact where
  own := false
  D := fun k => k < W0.heap.size
  p := fun w => ∀ k, k < W0.heap.size → w.heap[k]? = W0.heap[k]?
  st := fun w w' hs h k hk => (hs k hk).trans (h k hk)
theorem Rd.old {W0 w : World} {size : Nat} {A : Option Addr} {n : Nat} {xs : List Value} (h : Rd size A n xs W0) (ho : (oldF W0).p w) : Rd size A n xs w := by
  have hl := rd_lt h
  refine ⟨h.1, fun hn => ?_⟩
  obtain ⟨ad, hA, hc⟩ := h.2 hn
  refine ⟨ad, hA, fun j u hu => ?_⟩
  rw [← hc j u hu]
  have hb : (ad.add j).block = ad.block := by unfold Addr.add; split <;> rfl
  refine World.cell?_of_block ?_
  rw [hb]
  have hj : j < xs.length := (List.getElem?_eq_some_iff.1 hu).1
  exact ho _ (hl _ ⟨by rw [← h.1]; omega, ad, hA, rfl⟩)
theorem old_sat {cx : Cx} {w : World} (hW : cx.W0 = w := by rfl) (hbs : cx.bs = [] := by rfl) (hr : cx.rnd = none := by rfl) (hpn : cx.pn = [] := by rfl) : Sat cx Va.z 0 [] [oldF w] w :=
  (Sat.start hW hbs rfl rfl hr hpn).old (oldF w) (fun _ _ => rfl) (fun _ h => h) (fun _ h => by cases h) (fun q => by cases q) (fun _ h => by cases h)

/-- A row of bytes, and nothing else. -/
theorem con_row {P : Program} {k : FuncId} {args : Array Value} {w : World} {e : Nat} {l : List UInt8} (h : Calls P k args w fun en w' => ∃ v, en = .returned v ∧ ∃ A c, v = .slice A l.length c ∧ Chg None_ w w' ∧ NewRow w w' A l c e) :
    Con P k args w [] fun v Fs => ∃ A c, v = .slice A l.length c ∧ l.length ≤ c ∧ c ≤ maxLen ∧ Fs = [browF e A l c] := by
  refine Calls.mono h ?_
  rintro en w' ⟨v, rfl, A, c, rfl, hc, hn⟩
  refine ⟨_, rfl, [browF e A l c], ⟨A, c, rfl, hn.1, hn.2.1, rfl⟩, by rw [Un.nil]; exact hc, ⟨fun g hg => ?_, fun g hg k hk => ?_, List.pairwise_singleton _ _⟩, ⟨rfl, trivial⟩, fun g hg k hk => ?_⟩
  · obtain rfl := List.mem_singleton.1 hg; exact hn.2.2.1
  · obtain rfl := List.mem_singleton.1 hg; exact (hn.lt k hk).2
  · obtain rfl := List.mem_singleton.1 hg; exact .inr (hn.lt k hk).1
theorem pu_of {P : Program} {k : FuncId} {args : Array Value} {w : World} {v : Value} (h : Calls P k args w fun en w' => ∃ u, en = .returned u ∧ u = v ∧ Chg None_ w w') : Pu P k args w v := by
  refine Calls.mono h ?_
  rintro en w' ⟨u, rfl, rfl, hc⟩
  exact ⟨_, rfl, [], ⟨rfl, rfl⟩, by rw [Un.nil]; exact hc, ⟨fun _ q => (by cases q), fun _ q => (by cases q), List.Pairwise.nil⟩, trivial, fun _ q => (by cases q)⟩
end Go.Proofs.YthkjfepbmnabkaaDoor.Sx
