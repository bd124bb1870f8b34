/- Texts joined by colons, as bytes. -/
import Derived.Test.YthkjfepbmnabkaaDoorJoin
namespace Go.Proofs.YthkjfepbmnabkaaDoor.Sx
open Go Sha
attribute [local irreducible] Calls

theorem joined_c (w : World) (b c : Nat) (xs : List ByteArray) (hP : Rd 1 (some ⟨b, 0, none⟩) xs.length (xs.map Value.string) w) (hb : b < w.heap.size) (hN : xs.length ≤ 1000) (hcap : xs.length ≤ c) (hlen : (joinB xs ⟨#[58]⟩).size ≤ 140737488355328) :
    Con Tryd.prog n_proof_joined #[.slice (some ⟨b, 0, none⟩) xs.length c] w [] fun v Fs => ∃ A c', v = .slice A (joinB xs ⟨#[58]⟩).size c' ∧ Fs = [rdoF 1 A (joinB xs ⟨#[58]⟩).size ((bl_ (joinB xs ⟨#[58]⟩)).map byte)] := by
  have hl : (Lib.join (xs.map (·.data.toList)) [58]).length ≤ 140737488355328 := hlen
  refine con_of_sx (cx := cx_proof_joined w (Un [])) (good_proof_joined w (Un [])) b_proof_joined rfl rfl (β := Va.z) [.c (.v (.slice (some ⟨b, 0, none⟩) xs.length c))] 0 [] [oldF w] rfl rfl (old_sat rfl) ?_
  refine call_pu (fun β w' hs => join_c w' b c xs ⟨#[58]⟩ (hP.old (hs.get 0 rfl)) (Nat.lt_of_lt_of_le hb hs.chg.size) hN hcap hl) ?_
  intro b2 c2 h1 h2
  intro β w' hs
  exact hs.fin [0] ⟨_, c2, rfl, rfl⟩
end Go.Proofs.YthkjfepbmnabkaaDoor.Sx
