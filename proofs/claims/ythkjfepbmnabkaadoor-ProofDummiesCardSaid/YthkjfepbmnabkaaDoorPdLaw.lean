/- Nobody's secret: the law's walk. -/
import Derived.Test.YthkjfepbmnabkaaDoorAw3
import Derived.Test.YthkjfepbmnabkaaDoorPd3
import Derived.Test.YthkjfepbmnabkaaDoorPd5
namespace Go.Proofs.YthkjfepbmnabkaaDoor.Sx
open Go Sha
attribute [local irreducible] Calls

theorem sameSecret_t (w : World) (x y : SecA) (vx vy : Value) (ex : x.val = vx) (ey : y.val = vy) (hx : x.Rd w) (hy : y.Rd w) (h0 : x.s0 = y.s0) (h1 : x.it = y.it) (h2 : x.s1 = y.s1) (h3 : x.s2 = y.s2) (h4 : x.s3 = y.s3) : Pu Tryd.prog n_ostiaryref14_SameSecret #[vx, vy] w (.bool true) := by
  subst ex ey
  have := sameSecret_c w x y hx hy
  rwa [decide_eq_true ⟨h0, h1, h2, h3, h4⟩] at this
theorem right_t (w : World) (x : SecA) (vx : Value) (ex : x.val = vx) (h0 : 0 < x.s0.length ∧ x.s0.length ≤ 32) (h1 : 0 < x.it ∧ x.it ≤ 64) (h2 : x.s1.length = 32) (h3 : x.s2.length = 32) (h4 : x.s3.length = 32) : Pu Tryd.prog n_ostiaryref14_Right #[vx] w (.bool true) := by
  subst ex
  have := right_c w x
  rwa [decide_eq_true ⟨⟨h0.1, h0.2, h1.1, h1.2⟩, h2, h3, h4⟩] at this
theorem itOf_in (i : Int) : 0 < itOf i ∧ itOf i ≤ 64 := by
  unfold itOf
  split <;> omega
theorem cut_size (s : ByteArray) (k : Nat) : (s.extract 0 (min s.size k)).size ≤ k := by
  rw [ByteArray.size_extract]; omega
theorem bl_inj {s t : ByteArray} : bl_ s = bl_ t ↔ s = t := by
  constructor
  · intro h
    cases s; cases t
    simp only [bl_, Array.toList_inj] at h
    rw [h]
  · rintro rfl; rfl
theorem bs16 {w : World} {A : Option Addr} {l : List UInt8} {c m : Nat} (h : Bs w A l) (hl : l.length = 32) (hc : 32 ≤ c) (hm : m = c ∨ 16 ≤ m) (hmc : m ≤ c) : Bs w (cutA A m 0 1) (l.take 16) := by
  have h1 := h.cut (c := c) (m := m) (i := 0) (j := 16) (by omega) hm (Nat.zero_le _) (by omega) hmc
  have h2 : (l.take 16).length = 16 := by simp; omega
  show Rd 1 _ (l.take 16).length _ w
  rw [h2]
  exact h1
theorem sec_val {A0 A1 A2 A3 : Option Addr} {c0 c1 c2 c3 : Nat} {l0 l1 l2 l3 : List UInt8} {it : Int} (h0 : l0.length = 32) (h1 : l1.length = 32) (h2 : l2.length = 32) (h3 : l3.length = 32) :
    (SecA.mk A0 A1 A2 A3 c0 c1 c2 c3 (l0.take 16) l1 l2 l3 it).val = .agg #[.slice A0 16 c0, .int .i64 it, .slice A1 32 c1, .slice A2 32 c2, .slice A3 32 c3] := by
  have h4 : (l0.take 16).length = 16 := by simp; omega
  simp only [SecA.val, h4, h1, h2, h3]
theorem proofDummies_c (w : World) (s0 s1 : ByteArray) (i : Int) (s3 s4 : ByteArray) (hs0 : s0.size ≤ maxLen) (hs1 : s1.size ≤ maxLen) (hs3 : s3.size ≤ maxLen) (hs4 : s4.size ≤ maxLen) (h1 : (oddF 1).p w) (h0 : (firstF 0).p w) (h3 : (oddF 3).p w) :
    Pu Tryd.prog n_ostiarylaw19_ProofDummies #[.string s0, .string s1, .int .i64 i, .string s3, .string s4] w (.bool true) := by
  have g := good_ostiarylaw19_ProofDummies w (Un [])
  refine con_of_sx (cx := cx_ostiarylaw19_ProofDummies w (Un [])) g b_ostiarylaw19_ProofDummies rfl rfl (β := Va.z) [.c (.v (.string s0)), .c (.v (.string s1)), .c (.v (.int .i64 i)), .c (.v (.string s3)), .c (.v (.string s4))] 0 [] [oldF w] rfl rfl (old_sat rfl) ?_
  refine call_pu (fun β w' hs => awake19_c w' (Rd.old h1 (hs.get 0 rfl)) (Rd.old h0 (hs.get 0 rfl))) ?_
  refine call_pu (fun β w' hs => cutText_c w' s0 40 hs0 (by decide)) ?_
  refine call_pu (fun β w' hs => cutText_c w' s1 40 hs1 (by decide)) ?_
  refine call_pu (fun β w' hs => cutText_c w' s3 60 hs3 (by decide)) ?_
  refine call_pu (fun β w' hs => cutText_c w' s4 60 hs4 (by decide)) ?_
  have z0 := cut_size s0 40
  have z1 := cut_size s1 40
  have z3 := cut_size s3 60
  have z4 := cut_size s4 60
  generalize s0.extract 0 (min s0.size 40) = t at z0 ⊢
  generalize s1.extract 0 (min s1.size 40) = u at z1 ⊢
  generalize s3.extract 0 (min s3.size 60) = x at z3 ⊢
  generalize s4.extract 0 (min s4.size 60) = y at z4 ⊢
  refine call_con [] (fun β w' hs => new_c w' true) ?_
  rintro v Fs ⟨b, m, rfl, rfl⟩
  refine call_con [] (fun β w' hs => dummy_c w' ⟨b, 0, none⟩ t u i (by omega) (Rd.old h1 (hs.get 2 rfl)) (Rd.old h0 (hs.get 2 rfl))) ?_
  rintro v Fs ⟨A0, c0, cs, A1, c1, A2, c2, A3, c3, rfl, a1, a2, a3, a4, a5, a6, a7, a8, a9, a10, rfl⟩
  have hit := itOf_in i
  refine draw_rule g p_ostiarylaw19_ProofDummies_6 (by kernel_rfl) [⟨0, 28, [.v (.slice (cutA A0 16 0 1) 16 cs), .v (.int .i64 (itOf i)), .v (.slice A1 32 c1), .v (.slice A2 32 c2), .v (.slice A3 32 c3)]⟩] [] (Sub.of (List.Sublist.refl _) (List.nil_sublist _)) ?_
  have hS : ∀ {n : Nat} {F : List Fact}, Sub (cx_ostiarylaw19_ProofDummies w (Un [])) n [⟨0, 28, [.v (.slice (cutA A0 16 0 1) 16 cs), .v (.int .i64 (itOf i)), .v (.slice A1 32 c1), .v (.slice A2 32 c2), .v (.slice A3 32 c3)]⟩] F [⟨0, 28, [.v (.slice (cutA A0 16 0 1) 16 cs), .v (.int .i64 (itOf i)), .v (.slice A1 32 c1), .v (.slice A2 32 c2), .v (.slice A3 32 c3)]⟩] [] := fun {n F} => Sub.of (List.Sublist.refl _) (List.nil_sublist _)
  refine call_con [] (fun β w' hs => rdummy_c w' t u i (by omega) (Rd.old h3 (hs.get 6 rfl))) ?_
  rintro v Fs ⟨B0, d0, ds, B1, d1, B2, d2, B3, d3, rfl, rfl, e1, e2, e3, e4, e5, e6, e7, e8, rfl⟩
  refine ⟨hS, ?_⟩
  have l0 := Sha.sum_len (bl_ (dtext w_salt t u))
  have l1 := Sha.sum_len (bl_ (dtext w_stored t u))
  have l2 := Sha.sum_len (bl_ (dtext w_server t u))
  have l3 := Sha.sum_len (bl_ (dtext w_ha1 t u))
  generalize Sha.sum (bl_ (dtext w_salt t u)) = m0 at l0 ⊢
  generalize Sha.sum (bl_ (dtext w_stored t u)) = m1 at l1 ⊢
  generalize Sha.sum (bl_ (dtext w_server t u)) = m2 at l2 ⊢
  generalize Sha.sum (bl_ (dtext w_ha1 t u)) = m3 at l3 ⊢
  refine call_pu (fun β w' hs => sameSecret_t w' ⟨cutA A0 16 0 1, A1, A2, A3, cs, c1, c2, c3, m0.take 16, m1, m2, m3, itOf i⟩ ⟨cutA B0 ds 0 1, B1, B2, B3, ds, d1, d2, d3, m0.take 16, m1, m2, m3, itOf i⟩ _ _ (sec_val l0 l1 l2 l3) (sec_val l0 l1 l2 l3)
    ⟨bs16 (row_rd (hs.get 7 rfl)) l0 a3 (.inr (Nat.le_refl _)) (by omega), row_rd (hs.get 6 rfl), row_rd (hs.get 5 rfl), row_rd (hs.get 4 rfl)⟩
    ⟨bs16 (row_rd (hs.get 3 rfl)) l0 e1 (.inl rfl) (Nat.le_refl _), row_rd (hs.get 2 rfl), row_rd (hs.get 1 rfl), row_rd (hs.get 0 rfl)⟩ rfl rfl rfl rfl rfl) ?_
  refine ⟨hS, ?_⟩
  refine call_pu (fun β w' hs => right_t w' ⟨cutA A0 16 0 1, A1, A2, A3, cs, c1, c2, c3, m0.take 16, m1, m2, m3, itOf i⟩ _ (sec_val l0 l1 l2 l3) (by simp; omega) hit l1 l2 l3) ?_
  refine ⟨hS, ?_⟩
  refine call_pu (fun β w' hs => len_c w' b true false none 0 0 (.map (some m)) (hs.get 8 rfl)) ?_
  refine ⟨hS, ?_⟩
  have hcs : (⟨#[44]⟩ : ByteArray).size = 1 := rfl
  refine ⟨by show x.size + 1 ≤ maxLen; rw [maxLen_eq]; omega, by show (x ++ ⟨#[44]⟩).size + y.size ≤ maxLen; rw [maxLen_eq, sz_app, hcs]; omega, by show (x ++ ⟨#[44]⟩ ++ y).size + 1 ≤ maxLen; rw [maxLen_eq, sz_app, sz_app, hcs]; omega, by show (x ++ ⟨#[44]⟩ ++ y ++ ⟨#[44]⟩).size + t.size ≤ maxLen; rw [maxLen_eq, sz_app, sz_app, sz_app, hcs]; omega, ?_⟩
  refine call_pu (fun β w' hs => message_c w' x y t (by omega)) ?_
  refine ⟨hS, ?_⟩
  refine BIf.dec (fun _ => ?_) (fun h => absurd rfl h)
  have hend : (decide (bl_ x = bl_ y) == decide (x = y)) = true := by
    by_cases h : x = y
    · simp [h]
    · have h' : ¬ bl_ x = bl_ y := fun q => h (bl_inj.1 q)
      simp [h, h']
  refine ⟨?_, ?_⟩
  · intro b1 k1 _ _
    refine ⟨hS, ?_⟩
    intro b2 k2 _ _
    refine ⟨hS, ?_⟩
    refine call_pu (fun β w' hs => pequal_c w' (some ⟨b1, 0, none⟩) (some ⟨b2, 0, none⟩) (bl_ x) (bl_ y) k1 k2 (hs.get 1 rfl) (hs.get 0 rfl) (by rw [bl_len]; omega)) ?_
    refine ⟨hS, ?_⟩
    intro β w' hs
    refine (hs.keepB (List.nil_sublist _)).fin [] ⟨?_, rfl⟩
    show Value.bool (decide (bl_ x = bl_ y) == decide (x = y)) = _
    rw [hend]
  · intro b2 k2 _ _
    refine ⟨hS, ?_⟩
    intro b1 k1 _ _
    refine ⟨hS, ?_⟩
    refine call_pu (fun β w' hs => pequal_c w' (some ⟨b1, 0, none⟩) (some ⟨b2, 0, none⟩) (bl_ x) (bl_ y) k1 k2 (hs.get 0 rfl) (hs.get 1 rfl) (by rw [bl_len]; omega)) ?_
    refine ⟨hS, ?_⟩
    intro β w' hs
    refine (hs.keepB (List.nil_sublist _)).fin [] ⟨?_, rfl⟩
    show Value.bool (decide (bl_ x = bl_ y) == decide (x = y)) = _
    rw [hend]
end Go.Proofs.YthkjfepbmnabkaaDoor.Sx
