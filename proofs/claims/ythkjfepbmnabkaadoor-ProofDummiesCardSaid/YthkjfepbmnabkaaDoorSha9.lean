/- The document's sum. -/
import Derived.Test.YthkjfepbmnabkaaDoorSha8
namespace Go.Proofs.YthkjfepbmnabkaaDoor.Sx
open Go Sha
attribute [local irreducible] Calls

theorem rstep64_c (w : World) (s : S8) (A : Option Addr) (x : List UInt8) (c : Nat) (hx : x.length = 64) (hr : Bs w A x) (hk : (oddF 3).p w) (hc : 64 ≤ c) (hm : c ≤ maxLen) :
    Pu Tryd.prog n_ostiaryref01_Step #[stV s, .slice A 64 c] w (stV (Sha.step s x)) := by
  have := rstep_c w s A x c hr hk (by omega) (by omega) hm
  rw [hx] at this
  exact this
theorem rgo_c (w : World) (s : S8) (A : Option Addr) (l : List UInt8) (c : Nat) (hr : Bs w A l) (hk : (oddF 3).p w) (hc : l.length ≤ c) (hm : c ≤ maxLen) :
    Con Tryd.prog n_ostiaryref01_Go #[stV s, .slice A l.length c] w [] fun v Fs => ∃ A' n' c', v = .tuple #[stV (go (l.length / 64) s l), .slice A' n' c'] ∧ Fs = [] := by
  have g := good_ostiaryref01_Go w (Un [])
  rw [go_eq]
  have hs0 : Sat (cx_ostiaryref01_Go w (Un [])) Va.z 0 [] [oldF w] w := old_sat rfl
  have hs1 : Sat (cx_ostiaryref01_Go w (Un [])) Va.z 0 [] [bsF A l, oddF 3, oldF w] w := (hs0.sub 0 rfl rfl (oddF 3) rfl hk (rd_lt hk)).sub 1 rfl rfl (bsF A l) rfl hr (rd_lt hr)
  have hm' := hm
  rw [maxLen_eq] at hm'
  refine con_of_sx (cx := cx_ostiaryref01_Go w (Un [])) g b_ostiaryref01_Go rfl rfl (β := Va.z) [.agg (s.l.map sl32), .c (.v (.slice A l.length c))] 0 [] [bsF A l, oddF 3, oldF w] rfl rfl hs1 ?_
  refine loop_rule (ι := Nat × Option Addr × Nat) 2 (fun i => [(1, .c (.v (.slice i.2.1 (l.length - 64 * i.1) i.2.2))), (2, .c (.p 0 0)), (4, .c (.p 1 0))]) (fun i => [⟨1, 131, ti131.zero.map SL.v⟩, ⟨0, 131, ((blks l i.1).foldl Sha.step s).l.map sl32⟩]) (fun _ => [bsF A l, oddF 3, oldF w])
    (fun i => 64 * i.1 ≤ l.length ∧ l.length - 64 * i.1 ≤ i.2.2 ∧ i.2.2 ≤ 9223372036854775807 ∧ (∀ w, Bs w A l → Bs w i.2.1 (l.drop (64 * i.1)))) (fun i => l.length - 64 * i.1) (0, A, c)
    ⟨Nat.zero_le _, hc, hm', fun w h => h⟩ (Ent.same ⟨rfl, rfl, rfl, trivial⟩ rfl) g ?_
  rintro ⟨i, B, cap⟩ ⟨hi, hcap, hcm, hB⟩
  simp only at hi hcap hcm hB
  obtain ⟨m, hm2⟩ : ∃ m, l.length - 64 * i = m := ⟨_, rfl⟩
  have hmc : m ≤ cap := by omega
  rw [hm2]
  have hdl : (l.drop (64 * i)).length = m := by rw [List.length_drop]; omega
  obtain ⟨st, hst⟩ : ∃ st, (blks l i).foldl Sha.step s = st := ⟨_, rfl⟩
  rw [hst]
  refine BIf.dec (fun h0 => ?_) (fun h0 => ?_)
  · have hm64 : 64 ≤ m := by omega
    have hbl : (blk l i).length = 64 := by unfold blk; rw [List.length_take, hdl]; omega
    have hS : ∀ {H : List Bk} {n : Nat}, Sub (cx_ostiaryref01_Go w (Un [])) n H [bsF A l, oddF 3, oldF w] [] [bsF A l, oddF 3, oldF w] := fun {H n} => Sub.of (List.nil_sublist _) (List.Sublist.refl _)
    refine draw_rule g p_ostiaryref01_Go_2 (by kernel_rfl) [] [bsF A l, oddF 3, oldF w] hS ?_
    refine ⟨cap, 64, 0, 64, cap, _, rfl, rfl, rfl, Nat.le_refl _, by show 64 ≤ cap; omega, by omega, rfl, rfl, rfl, ?_⟩
    refine ⟨cap, m, 64, m - 64, cap - 64, _, rfl, rfl, rfl, Nat.le_refl _, hmc, hm64, rfl, rfl, rfl, ?_⟩
    refine ⟨hS, ?_⟩
    refine call_pu (fun β w' hs => rstep64_c w' st (cutA B cap 0 1) (blk l i) cap hbl ?_ (hs.get 1 rfl) (by omega) (by rw [maxLen_eq]; exact hcm)) ?_
    · have h7 := Bs.cut (hB w' (hs.get 0 rfl)) (c := cap) (m := cap) (i := 0) (j := 64) (by omega) (.inl rfl) (by omega) (by omega) (by omega)
      have h8 : Rd 1 (cutA B cap 0 1) (blk l i).length ((blk l i).map byte) w' := by rw [hbl]; exact h7
      exact h8
    refine ⟨hS, ?_⟩
    refine ⟨hS, ?_⟩
    refine ⟨(i + 1, cutA B cap 64 1, cap - 64), ⟨by show 64 * (i + 1) ≤ _; omega, by show l.length - 64 * (i + 1) ≤ cap - 64; omega, by show cap - 64 ≤ _; omega, fun w' h => ?_⟩, by show l.length - 64 * (i + 1) < m; omega, Ent.mk' ⟨?_, rfl, rfl, trivial⟩ rfl (fun β w' hs => ?_)⟩
    · have h7 := Bs.cutB (hB w' h) (c := cap) (i := 64) (j := m) (m := l.drop (64 * (i + 1))) (by omega) hm64 (by omega) (by
        rw [List.drop_drop, show 64 * i + 64 = 64 * (i + 1) by omega, List.take_of_length_le]
        rw [List.length_drop]; omega)
      exact h7
    · show _ = some (SV.c (.v (.slice _ (l.length - 64 * (i + 1)) _)))
      rw [show l.length - 64 * (i + 1) = m - 64 by omega]
      rfl
    · rw [blks_succ, List.foldl_append, hst]
      exact hs
  · have hi2 : i = l.length / 64 := by omega
    intro β w' hs
    rw [← hi2, hst]
    exact hs.fin [] ⟨B, m, cap, rfl, rfl⟩

theorem rsum_c (w : World) (A : Option Addr) (l : List UInt8) (c : Nat) (hr : Bs w A l) (hk : (oddF 3).p w) (hn : l.length ≤ 70368744177664) :
    Con Tryd.prog n_ostiaryref01_Sum #[.slice A l.length c] w [] fun v Fs => ∃ A' c', v = .slice A' 32 c' ∧ 32 ≤ c' ∧ c' ≤ maxLen ∧ Fs = [browF ty_uint8 A' (Sha.sum l) c'] := by
  have g := good_ostiaryref01_Sum w (Un [])
  have hs0 : Sat (cx_ostiaryref01_Sum w (Un [])) Va.z 0 [] [oldF w] w := old_sat rfl
  have hs1 : Sat (cx_ostiaryref01_Sum w (Un [])) Va.z 0 [] [bsF A l, oddF 3, oldF w] w := (hs0.sub 0 rfl rfl (oddF 3) rfl hk (rd_lt hk)).sub 1 rfl rfl (bsF A l) rfl hr (rd_lt hr)
  refine con_of_sx (cx := cx_ostiaryref01_Sum w (Un [])) g b_ostiaryref01_Sum rfl rfl (β := Va.z) [.c (.v (.slice A l.length c))] 0 [] [bsF A l, oddF 3, oldF w] rfl rfl hs1 ?_
  obtain ⟨q, hq⟩ : ∃ q, l ++ ends l.length = q := ⟨_, rfl⟩
  have hql : q.length = l.length + (ends l.length).length := by rw [← hq, List.length_append]
  have hel : (ends l.length).length < 73 := by rw [Sha.ends_len]; unfold zeros; omega
  have hsum : Sha.sum l = out (go (q.length / 64) Sha.first q) := by rw [← hq]; rfl
  rw [hsum]
  refine call_pu (fun β w' hs => first_c w') ?_
  intro b
  refine ⟨0, 0, l.length, [], l.map byte, _, rfl, fun β w' hs => hs.get 1 rfl, bytes_one l, Nat.zero_add _, rfl, by rw [maxLen_eq]; omega, by show l.length * 1 ≤ _; omega, ?_⟩
  intro A1 c1 h1 h2 _
  refine ⟨(l.length : Int), by rw [wrap_u64']; omega, ?_⟩
  refine call_con [] (fun β w' hs => tail_c w' l.length (by omega)) ?_
  rintro v Fs ⟨A2, c2, rfl, h3, h4, rfl⟩
  refine ⟨1, l.length, q.length, _, (ends l.length).map byte, q.map byte, rfl, fun β w hs => row_rd (hs.get 0 rfl), bytes_one _, hql.symm, by rw [← hq, List.map_append]; rfl, by rw [maxLen_eq]; omega, by show q.length * 1 ≤ _; omega, ?_⟩
  intro A3 c3 h5 h6 _
  refine call_con [] (fun β w' hs => rgo_c w' Sha.first A3 q c3 (row_rd (hs.get 1 rfl)) (hs.get 3 rfl) h5 h6) ?_
  rintro v Fs ⟨A4, n4, c4, rfl, rfl⟩
  generalize go (q.length / 64) Sha.first q = st
  refine call_con [] (fun β w' hs => out_c w' st) ?_
  rintro v Fs ⟨A5, c5, rfl, h7, h8, rfl⟩
  intro β w' hs
  exact (hs.keepB (List.nil_sublist _)).fin [0] ⟨A5, c5, rfl, h7, h8, rfl⟩
end Go.Proofs.YthkjfepbmnabkaaDoor.Sx
