/- Secrets compared; texts cut; bytes compared. -/
import Derived.Test.YthkjfepbmnabkaaDoorPd2
namespace Go.Proofs.YthkjfepbmnabkaaDoor.Sx
open Go Sha
attribute [local irreducible] Calls

theorem cutText_c (w : World) (s : ByteArray) (k : Nat) (hs : s.size ≤ maxLen) (hk : k ≤ 1000) : Pu Tryd.prog n_ostiaryref01_CutText #[.string s, .int .i64 k] w (.string (s.extract 0 (min s.size k))) := by
  refine pu_of (calls_of_sx (cx := cx_ostiaryref01_CutText w None_) (good_ostiaryref01_CutText w None_) b_ostiaryref01_CutText rfl rfl (β := Va.z) [.c (.v (.string s)), .c (.v (.int .i64 k))] 0 [] [] rfl rfl (Sat.start rfl) ?_)
  refine ⟨((min s.size k : Nat) : Int), by dsimp only; omega, ?_⟩
  refine ⟨min s.size k, 0, rfl, rfl, by omega, Nat.zero_le _, ?_⟩
  intro β w' hs
  exact ⟨rfl, hs.chg⟩

/-- A secret as it lies in memory. -/
structure SecA where
  A0 : Option Addr
  A1 : Option Addr
  A2 : Option Addr
  A3 : Option Addr
  c0 : Nat
  c1 : Nat
  c2 : Nat
  c3 : Nat
  s0 : List UInt8
  s1 : List UInt8
  s2 : List UInt8
  s3 : List UInt8
  it : Int
def SecA.val (x : SecA) : Value := .agg #[.slice x.A0 x.s0.length x.c0, .int .i64 x.it, .slice x.A1 x.s1.length x.c1, .slice x.A2 x.s2.length x.c2, .slice x.A3 x.s3.length x.c3]
def SecA.cells (x : SecA) : List SL := [.v (.slice x.A0 x.s0.length x.c0), .v (.int .i64 x.it), .v (.slice x.A1 x.s1.length x.c1), .v (.slice x.A2 x.s2.length x.c2), .v (.slice x.A3 x.s3.length x.c3)]
structure SecA.Rd (x : SecA) (w : World) : Prop where
  h0 : Bs w x.A0 x.s0
  h1 : Bs w x.A1 x.s1
  h2 : Bs w x.A2 x.s2
  h3 : Bs w x.A3 x.s3

theorem salted_c (w : World) (A : Option Addr) (n c : Nat) (i : Int) : Pu Tryd.prog n_ostiaryref14_salted #[.slice A n c, .int .i64 i] w (.bool (decide (0 < n ∧ n ≤ 32 ∧ 0 < i ∧ i ≤ 64))) := by
  refine pu_of (calls_of_sx (cx := cx_ostiaryref14_salted w None_) (good_ostiaryref14_salted w None_) b_ostiaryref14_salted rfl rfl (β := Va.z) [.c (.v (.slice A n c)), .c (.v (.int .i64 i))] 0 [] [] rfl rfl (Sat.start rfl) ?_)
  refine BIf.dec (fun q0 => ?_) (fun q0 => ?_)
  · refine BIf.dec (fun q1 => ?_) (fun q1 => ?_)
    · refine BIf.dec (fun q2 => ?_) (fun q2 => ?_)
      · intro β w' hs
        refine ⟨?_, hs.chg⟩
        show Value.bool (decide (i ≤ 64)) = _
        congr 1
        exact decide_eq_decide.2 ⟨fun h => ⟨by omega, by omega, q2, h⟩, fun h => h.2.2.2⟩
      · intro β w' hs
        refine ⟨?_, hs.chg⟩
        show Value.bool false = _
        congr 1
        exact (decide_eq_false (fun h => q2 h.2.2.1)).symm
    · intro β w' hs
      refine ⟨?_, hs.chg⟩
      show Value.bool false = _
      congr 1
      exact (decide_eq_false (fun h => q1 (by have := h.2.1; omega))).symm
  · intro β w' hs
    refine ⟨?_, hs.chg⟩
    show Value.bool false = _
    congr 1
    exact (decide_eq_false (fun h => q0 (by have := h.1; omega))).symm

theorem right_c (w : World) (x : SecA) : Pu Tryd.prog n_ostiaryref14_Right #[x.val] w (.bool (decide ((0 < x.s0.length ∧ x.s0.length ≤ 32 ∧ 0 < x.it ∧ x.it ≤ 64) ∧ x.s1.length = 32 ∧ x.s2.length = 32 ∧ x.s3.length = 32))) := by
  refine pu_of (calls_of_sx (cx := cx_ostiaryref14_Right w None_) (good_ostiaryref14_Right w None_) b_ostiaryref14_Right rfl rfl (β := Va.z) [.agg x.cells] 0 [] [] rfl rfl (Sat.start rfl) ?_)
  refine call_pu (fun β w' hs => salted_c w' x.A0 x.s0.length x.c0 x.it) ?_
  have e : ∀ (n : Nat), (n : Int) = 32 ↔ n = 32 := fun n => by omega
  refine BIf.dec (fun q0 => ?_) (fun q0 => ?_)
  · refine BIf.dec (fun q1 => ?_) (fun q1 => ?_)
    · refine BIf.dec (fun q2 => ?_) (fun q2 => ?_)
      · intro β w' hs
        refine ⟨?_, hs.chg⟩
        show Value.bool (decide ((x.s3.length : Int) = 32)) = _
        congr 1
        exact decide_eq_decide.2 ⟨fun h => ⟨q0, (e _).1 q1, (e _).1 q2, (e _).1 h⟩, fun h => (e _).2 h.2.2.2⟩
      · intro β w' hs
        refine ⟨?_, hs.chg⟩
        show Value.bool false = _
        congr 1
        exact (decide_eq_false (fun h => q2 ((e _).2 h.2.2.1))).symm
    · intro β w' hs
      refine ⟨?_, hs.chg⟩
      show Value.bool false = _
      congr 1
      exact (decide_eq_false (fun h => q1 ((e _).2 h.2.1))).symm
  · intro β w' hs
    refine ⟨?_, hs.chg⟩
    show Value.bool false = _
    congr 1
    exact (decide_eq_false (fun h => q0 h.1)).symm

theorem sameSecret_c (w : World) (x y : SecA) (hx : x.Rd w) (hy : y.Rd w) : Pu Tryd.prog n_ostiaryref14_SameSecret #[x.val, y.val] w (.bool (decide (x.s0 = y.s0 ∧ x.it = y.it ∧ x.s1 = y.s1 ∧ x.s2 = y.s2 ∧ x.s3 = y.s3))) := by
  refine pu_of (calls_of_sx (cx := cx_ostiaryref14_SameSecret w None_) (good_ostiaryref14_SameSecret w None_) b_ostiaryref14_SameSecret rfl rfl (β := Va.z) [.agg x.cells, .agg y.cells] 0 [] [oldF w] rfl rfl (old_sat rfl) ?_)
  refine call_pu (fun β w' hs => pu_of (same_c w' x.A0 y.A0 x.s0 y.s0 x.c0 y.c0 (hx.h0.old (hs.get 0 rfl)) (hy.h0.old (hs.get 0 rfl)))) ?_
  refine BIf.dec (fun q0 => ?_) (fun q0 => ?_)
  · refine BIf.dec (fun q1 => ?_) (fun q1 => ?_)
    · refine call_pu (fun β w' hs => pu_of (same_c w' x.A1 y.A1 x.s1 y.s1 x.c1 y.c1 (hx.h1.old (hs.get 0 rfl)) (hy.h1.old (hs.get 0 rfl)))) ?_
      refine BIf.dec (fun q2 => ?_) (fun q2 => ?_)
      · refine call_pu (fun β w' hs => pu_of (same_c w' x.A2 y.A2 x.s2 y.s2 x.c2 y.c2 (hx.h2.old (hs.get 0 rfl)) (hy.h2.old (hs.get 0 rfl)))) ?_
        refine BIf.dec (fun q3 => ?_) (fun q3 => ?_)
        · refine call_pu (fun β w' hs => pu_of (same_c w' x.A3 y.A3 x.s3 y.s3 x.c3 y.c3 (hx.h3.old (hs.get 0 rfl)) (hy.h3.old (hs.get 0 rfl)))) ?_
          intro β w' hs
          refine ⟨?_, hs.chg⟩
          show Value.bool (decide (x.s3 = y.s3)) = _
          congr 1
          simp [q0, q1, q2, q3]
        · intro β w' hs
          refine ⟨?_, hs.chg⟩
          show Value.bool false = _
          congr 1
          simp [q3]
      · intro β w' hs
        refine ⟨?_, hs.chg⟩
        show Value.bool false = _
        congr 1
        simp [q2]
    · intro β w' hs
      refine ⟨?_, hs.chg⟩
      show Value.bool false = _
      congr 1
      simp [q1]
  · intro β w' hs
    refine ⟨?_, hs.chg⟩
    show Value.bool false = _
    congr 1
    simp [q0]
end Go.Proofs.YthkjfepbmnabkaaDoor.Sx
