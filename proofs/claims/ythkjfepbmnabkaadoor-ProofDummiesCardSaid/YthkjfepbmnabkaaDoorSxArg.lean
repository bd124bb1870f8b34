/- What a statement's proof has of its arguments, in this executor's words. -/
import Derived.Test.YthkjfepbmnabkaaDoorSxUse
import Derived.Below
namespace Go.Proofs.YthkjfepbmnabkaaDoor.Sx
open Go Go.RowKit

theorem below_of {w w' : World} (h : Chg None_ w w') : Below w.heap.size w w' :=
  ⟨h.os, h.tape, h.output, h.size, fun k hk => h.same k hk (fun q => q)⟩
theorem u8_of {x : Int} (h : (Lit.int .u8 x).wf = true) : ∃ k : UInt8, Value.int .u8 x = byte k := by
  have hx : 0 ≤ x ∧ x ≤ 255 := by
    have h2 : IntKind.u8.min ≤ x ∧ x ≤ IntKind.u8.max := by simpa [Lit.wf] using h
    exact h2
  refine ⟨UInt8.ofNat x.toNat, ?_⟩
  unfold byte
  rw [UInt8.toNat_ofNat']
  congr 1
  omega
theorem row_bs {w : World} {a : Option Addr} {len cap : Nat} {zs : List Int}
    (h : (a = none ∧ len = 0 ∧ cap = 0 ∧ zs = []) ∨ ∃ x, a = some x ∧ len ≤ cap ∧ cap ≤ maxLen ∧ zs.length = cap ∧ (∀ i, i < zs.length → w.cell? (x.add i) = some (.int .u8 (zs.getD i 0))) ∧ ∀ n ∈ zs, (Lit.int .u8 n).wf = true) :
    ∃ p : List UInt8, p.length = len ∧ Bs w a p ∧ len ≤ cap ∧ cap ≤ maxLen := by
  rcases h with ⟨rfl, rfl, rfl, rfl⟩ | ⟨x, rfl, h1, h2, rfl, h3, h4⟩
  · exact ⟨[], rfl, Bs.nil _ _, Nat.le_refl _, Nat.zero_le _⟩
  · have hl : ((zs.take len).map (fun z : Int => UInt8.ofNat z.toNat)).length = len := by simp; omega
    refine ⟨(zs.take len).map (fun z : Int => UInt8.ofNat z.toNat), hl, ⟨by simp, fun _ => ⟨x, rfl, fun j u hj => ?_⟩⟩, h1, h2⟩
    have hjl : j < len := by
      have := (List.getElem?_eq_some_iff.1 hj).1
      simp at this; omega
    have hjz : j < zs.length := by omega
    rw [h3 j hjz, ← hj]
    obtain ⟨k, hk⟩ := u8_of (h4 _ (List.getElem_mem hjz))
    have hz : zs.getD j 0 = zs[j] := by simp [hjz]
    simp only [List.getElem?_map, List.getElem?_take, if_pos hjl, List.getElem?_eq_getElem hjz, Option.map_some, hz, hk]
    have hkk : zs[j] = (k.toNat : Int) := by simpa [byte] using hk
    simp [hkk]
end Go.Proofs.YthkjfepbmnabkaaDoor.Sx
