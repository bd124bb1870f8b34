/- Frames in parts: the plain law. -/
import Derived.Test.YtlbnmjjbjjmifaaFr5
namespace Go.Proofs.Ytlbnmjjbjjmifaa.Sx
open Go

def packs (fs : List Fr) : List UInt8 := fs.flatMap (fun f => (packF f.1 f.2).1)
def okFr (f : Fr) : Prop := (packF f.1 f.2).2 = 0
theorem okFr_form {k : UInt8} {l : List UInt8} (h : okFr (k, l)) : kindB k = true ∧ l.length ≤ 2048 ∧ (packF k l).1 = k :: UInt8.ofNat (l.length / 256) :: UInt8.ofNat (l.length % 256) :: l := by
  have h' : (packF k l).2 = 0 := h
  unfold packF at h' ⊢
  split at h'
  · cases h'
  · rename_i hk
    split at h'
    · cases h'
    · rename_i hl
      rw [if_neg hk, if_neg hl]
      exact ⟨by simpa using hk, by omega, rfl⟩
theorem unpack_short {k : UInt8} {l t p : List UInt8} (h : okFr (k, l)) (hp : p <+: (packF k l).1 ++ t) (hlt : p.length < (packF k l).1.length) : unpackF p = (0, [], 0, 2) := by
  obtain ⟨hk, hl, he⟩ := okFr_form h
  rw [he] at hp hlt
  obtain ⟨r, hr⟩ := hp
  match p, hr with
  | [], _ => rfl
  | [_], _ => rfl
  | [_, _], _ => rfl
  | a :: b :: c :: q, hr =>
    simp only [List.cons_append, List.cons.injEq] at hr
    obtain ⟨rfl, rfl, rfl, _⟩ := hr
    simp only [List.length_cons] at hlt
    have e1 : (UInt8.ofNat (l.length / 256)).toNat = l.length / 256 := by rw [UInt8.toNat_ofNat']; omega
    have e2 : (UInt8.ofNat (l.length % 256)).toNat = l.length % 256 := by rw [UInt8.toNat_ofNat']; omega
    simp only [unpackF, hk, e1, e2]
    rw [if_neg (by decide), if_neg (by omega), if_pos (by omega)]

def stopAt (fs : List Fr) (l : List UInt8) : Prop := (fs = [] → l = []) ∧ ∀ f r, fs = f :: r → l.length < (packF f.1 f.2).1.length
theorem take_parts (b : Nat) : ∀ (fs : List Fr) (m : Nat) (l : List UInt8), (∀ f ∈ fs, okFr f) → l <+: packs fs → fs.length < m →
    ∃ j l', j ≤ fs.length ∧ takeF (some b) m (l, 0) = (fs.take j, (l', 0)) ∧ l = packs (fs.take j) ++ l' ∧ stopAt (fs.drop j) l'
  | [], m + 1, l, _, hp, _ => by
    have hl : l = [] := by simpa [packs] using hp
    subst hl
    exact ⟨0, [], Nat.le_refl _, rfl, rfl, fun _ => rfl, fun f r h => (by cases h)⟩
  | (k, p) :: r, m + 1, l, hok, hp, hlen => by
    have hf := hok (k, p) List.mem_cons_self
    by_cases hlt : l.length < (packF k p).1.length
    · have hu := unpack_short hf (t := packs r) hp hlt
      refine ⟨0, l, Nat.zero_le _, ?_, rfl, fun h => (by cases h), fun f r' h => (by injection h with h1 h2; subst h1; exact hlt)⟩
      have h1 : nextO (some b) (l, 0) = (0, [], 2) := by
        show nextF l 0 = _
        unfold nextF; rw [if_pos rfl, hu]; rfl
      have h2 : afterO (some b) (l, 0) = (l, 0) := by
        show nextS l 0 = _
        unfold nextS; rw [if_pos rfl, hu]; rfl
      simp only [takeF, h1, h2]
      rfl
    · obtain ⟨t, ht⟩ := hp
      have hpk : packs ((k, p) :: r) = (packF k p).1 ++ packs r := by simp [packs]
      rw [hpk] at ht
      obtain ⟨l2, rfl⟩ : ∃ l2, l = (packF k p).1 ++ l2 := by
        refine ⟨l.drop (packF k p).1.length, ?_⟩
        have h1 := congrArg (List.take (packF k p).1.length) ht
        rw [List.take_append_of_le_length (by omega), List.take_append_of_le_length (Nat.le_refl _), List.take_length] at h1
        conv => lhs; rw [← List.take_append_drop (packF k p).1.length l, h1]
      rw [List.append_assoc] at ht
      have hp2 : l2 <+: packs r := ⟨t, List.append_cancel_left ht⟩
      obtain ⟨j, l', hj, ih, hl, hs⟩ := take_parts b r m l2 (fun f h => hok f (List.mem_cons_of_mem _ h)) hp2 (by simp only [List.length_cons] at hlen; omega)
      have hu := pack_unpack k p l2 hf
      have h1 : nextO (some b) ((packF k p).1 ++ l2, 0) = (k, p, 0) := by
        show nextF _ 0 = _
        unfold nextF; rw [if_pos rfl, hu]; rfl
      have h2 : afterO (some b) ((packF k p).1 ++ l2, 0) = (l2, 0) := by
        show nextS _ 0 = _
        unfold nextS; rw [if_pos rfl, hu]; simp
      refine ⟨j + 1, l', by simpa using hj, ?_, ?_, hs⟩
      · simp only [takeF, h1, h2, ih, if_true, List.take_succ_cons]
      · rw [List.take_succ_cons, hl]
        simp [packs]
end Go.Proofs.Ytlbnmjjbjjmifaa.Sx
