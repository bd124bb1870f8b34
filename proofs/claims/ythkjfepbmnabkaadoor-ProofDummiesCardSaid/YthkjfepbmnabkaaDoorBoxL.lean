/- Boxes, plainly: terms and their prints, handles. -/
import Derived.Test.YthkjfepbmnabkaaDoorShaL
namespace Go.Proofs.YthkjfepbmnabkaaDoor.Bx

structure Term where
  kind : Nat
  key : List UInt8
  text : List UInt8
  rounds : Nat
  list : List Nat
  mask : List UInt8

/-! ### prints -/
def vint (n : Nat) : List UInt8 := if h : n < 128 then [UInt8.ofNat n] else UInt8.ofNat (n % 128 + 128) :: vint (n / 128)
termination_by n
decreasing_by omega
theorem vint_lt {n : Nat} (h : n < 128) : vint n = [UInt8.ofNat n] := by rw [vint, dif_pos h]
theorem vint_ge {n : Nat} (h : ¬ n < 128) : vint n = UInt8.ofNat (n % 128 + 128) :: vint (n / 128) := by rw [vint, dif_neg h]
theorem u8_inj {a b : Nat} (ha : a < 256) (hb : b < 256) (h : UInt8.ofNat a = UInt8.ofNat b) : a = b := by
  have := congrArg UInt8.toNat h
  simp only [UInt8.toNat_ofNat'] at this
  omega
theorem vint_inj : ∀ (a b : Nat) (x y : List UInt8), vint a ++ x = vint b ++ y → a = b ∧ x = y := by
  intro a
  induction a using Nat.strongRecOn with
  | _ a ih =>
    intro b x y h
    by_cases ha : a < 128
    · by_cases hb : b < 128
      · rw [vint_lt ha, vint_lt hb] at h
        simp only [List.cons_append, List.nil_append, List.cons.injEq] at h
        exact ⟨u8_inj (by omega) (by omega) h.1, h.2⟩
      · rw [vint_lt ha, vint_ge hb] at h
        simp only [List.cons_append, List.nil_append, List.cons.injEq] at h
        have := u8_inj (by omega) (by omega) h.1
        omega
    · by_cases hb : b < 128
      · rw [vint_ge ha, vint_lt hb] at h
        simp only [List.cons_append, List.nil_append, List.cons.injEq] at h
        have := u8_inj (by omega) (by omega) h.1
        omega
      · rw [vint_ge ha, vint_ge hb] at h
        simp only [List.cons_append, List.cons.injEq] at h
        have h1 := u8_inj (by omega) (by omega) h.1
        obtain ⟨h2, h3⟩ := ih (a / 128) (by omega) (b / 128) x y h.2
        exact ⟨by omega, h3⟩
theorem vints_inj : ∀ (l m : List Nat) (x y : List UInt8), l.length = m.length → l.flatMap vint ++ x = m.flatMap vint ++ y → l = m ∧ x = y
  | [], [], x, y, _, h => ⟨rfl, h⟩
  | [], _ :: _, _, _, hl, _ => by cases hl
  | _ :: _, [], _, _, hl, _ => by cases hl
  | a :: l, b :: m, x, y, hl, h => by
    simp only [List.flatMap_cons, List.append_assoc] at h
    obtain ⟨rfl, h2⟩ := vint_inj a b _ _ h
    obtain ⟨rfl, h3⟩ := vints_inj l m x y (by simpa using hl) h2
    exact ⟨rfl, h3⟩
def print (t : Term) : List UInt8 := [t.kind, t.rounds, t.key.length, t.text.length, t.list.length].flatMap vint ++ t.list.flatMap vint ++ (t.key ++ t.text ++ t.mask)
theorem print_inj {s t : Term} (h : print s = print t) : s = t := by
  obtain ⟨k, a, b, r, l, m⟩ := s
  obtain ⟨k', a', b', r', l', m'⟩ := t
  simp only [print, List.append_assoc] at h
  obtain ⟨h1, h2⟩ := vints_inj [k, r, a.length, b.length, l.length] [k', r', a'.length, b'.length, l'.length] _ _ rfl h
  simp only [List.cons.injEq, and_true] at h1
  obtain ⟨rfl, rfl, h3, h4, h5⟩ := h1
  obtain ⟨rfl, h6⟩ := vints_inj l l' _ _ h5 h2
  obtain ⟨rfl, h7⟩ := List.append_inj h6 h3
  obtain ⟨rfl, rfl⟩ := List.append_inj h7 h4
  rfl

/-! ### handles -/
def front : List UInt8 := [0xf1, 84, 82, 77] ++ List.replicate 24 0
theorem front_len : front.length = 28 := rfl
def be4 (n : Nat) : List UInt8 := [UInt8.ofNat (n / 16777216), UInt8.ofNat (n / 65536), UInt8.ofNat (n / 256), UInt8.ofNat n]
def handle (n : Nat) : List UInt8 := front ++ be4 n
theorem handle_len (n : Nat) : (handle n).length = 32 := rfl
def num : List UInt8 → Nat := List.foldl (fun n b => n * 256 + b.toNat) 0
/-- The number of what looks like a handle. -/
def looks (p : List UInt8) : Option Nat := if p.length = 32 ∧ p.take 28 = front then some (num (p.drop 28)) else none
theorem num_be4 {n : Nat} (h : n < 4294967296) : num (be4 n) = n := by
  simp only [num, be4, List.foldl, UInt8.toNat_ofNat']
  omega
theorem looks_handle {n : Nat} (h : n < 4294967296) : looks (handle n) = some n := by
  have h1 : (handle n).take 28 = front := List.take_left' front_len
  have h2 : (handle n).drop 28 = be4 n := List.drop_left' front_len
  rw [looks, if_pos ⟨handle_len n, h1⟩, h2, num_be4 h]
theorem handle_inj {m n : Nat} (hm : m < 4294967296) (hn : n < 4294967296) (h : handle m = handle n) : m = n := by
  have := looks_handle hm
  rw [h, looks_handle hn] at this
  exact (Option.some.inj this).symm

/-! ### boxes -/
open Classical in
/-- Where a term stands. -/
noncomputable def place (t : Term) : List Term → Option Nat
  | [] => none
  | x :: r => if x = t then some 0 else (place t r).map (· + 1)
theorem place_some {t : Term} : ∀ {L : List Term} {i : Nat}, place t L = some i → L[i]? = some t
  | x :: r, i, h => by
    simp only [place] at h
    split at h
    · rename_i q; obtain rfl := Option.some.inj h; simp [q]
    · obtain ⟨j, hj, rfl⟩ := Option.map_eq_some_iff.1 h
      simpa using place_some hj
theorem place_none {t : Term} : ∀ {L : List Term}, place t L = none → t ∉ L
  | [], _ => List.not_mem_nil
  | x :: r, h => by
    simp only [place] at h
    split at h
    · cases h
    · rename_i q
      have h' : place t r = none := by simpa using h
      intro hm
      rcases List.mem_cons.1 hm with rfl | hm
      · exact q rfl
      · exact place_none h' hm
structure Box where
  sym : Bool
  full : Bool
  L : List Term
def noughts : List UInt8 := List.replicate 32 0
open Classical in
/-- A term's handle; the box behind it. -/
noncomputable def Box.tag (b : Box) (t : Term) : List UInt8 × Box := match place t b.L with
  | some i => (handle (i + 1), b)
  | none => if 4096 ≤ b.L.length then (noughts, { b with full := true }) else (handle (b.L.length + 1), { b with L := b.L ++ [t] })
end Go.Proofs.YthkjfepbmnabkaaDoor.Bx
