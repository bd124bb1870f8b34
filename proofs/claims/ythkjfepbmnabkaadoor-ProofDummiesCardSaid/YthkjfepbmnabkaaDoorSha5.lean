/- A text's blocks. -/
import Derived.Test.YthkjfepbmnabkaaDoorSha4
namespace Go.Proofs.YthkjfepbmnabkaaDoor.Sx
open Go Sha
attribute [local irreducible] Calls

theorem clone_c (w : World) (A : Option Addr) (l : List UInt8) (c : Nat) (hr : Bs w A l) (hn : l.length ≤ 140737488355328) :
    Con Tryd.prog n_bytes_Clone #[.slice A l.length c] w [] fun v Fs => ∃ A' c', v = .slice A' l.length c' ∧ l.length ≤ c' ∧ c' ≤ maxLen ∧ Fs = [browF ty_uint8 A' l c'] := by
  refine con_of_sx (cx := cx_bytes_Clone w (Un [])) (good_bytes_Clone w (Un [])) b_bytes_Clone rfl rfl (β := Va.z) [.c (.v (.slice A l.length c))] 0 [] [bsF A l] rfl rfl ((Sat.start rfl).rd (fun _ h => by cases h) hr) ?_
  refine BIf.mk (fun h => ?_) (fun h => ?_)
  · intro β w' hs
    have hA : A = none := by simpa using h
    subst hA
    have hl : l = [] := by
      cases l with
      | nil => rfl
      | cons x r => obtain ⟨ad, q⟩ := Bs.addr hr (by simp); cases q
    subst hl
    exact (hs.nilRow ty_uint8 1).fin [0] ⟨none, 0, rfl, Nat.le_refl _, Nat.zero_le _, rfl⟩
  intro b
  refine ⟨0, 0, l.length, [], l.map byte, _, rfl, fun β w hs => hs.get 1 rfl, bytes_one l, Nat.zero_add _, rfl, by rw [maxLen_eq]; omega, by show l.length * 1 ≤ _; omega, ?_⟩
  intro A' c' h1 h2 h3 β w' hs
  exact hs.fin [0] ⟨A', c', rfl, h1, h2, rfl⟩

def blk (q : List UInt8) (i : Nat) : List UInt8 := (q.drop (64 * i)).take 64
def blks (q : List UInt8) (n : Nat) : List (List UInt8) := (List.range n).map (blk q)
theorem blks_succ (q : List UInt8) (n : Nat) : blks q (n + 1) = blks q n ++ [blk q n] := by simp [blks, List.range_succ]
theorem go_eq : ∀ (n : Nat) (s : S8) (q : List UInt8), go n s q = (blks q n).foldl Sha.step s
  | 0, s, q => rfl
  | n + 1, s, q => by
    rw [go, go_eq n]
    have : blks q (n + 1) = q.take 64 :: blks (q.drop 64) n := by
      simp only [blks, List.range_succ_eq_map, List.map_cons, List.map_map]
      congr 1
      refine List.map_congr_left fun i _ => ?_
      simp only [Function.comp, blk, List.drop_drop]
      rw [show 64 * (i + 1) = 64 + 64 * i by omega]
    rw [this, List.foldl_cons]

def insB (x : List UInt8) (args : Array Value) (X : Fact) : Prop := x.length = 64 ∧ ∃ B, args = #[.slice B 64 64] ∧ X = bsF B x

theorem blocks_it (l : Nat) (w : World) (bx : Nat) (A : Option Addr) (p : List UInt8) (c : Nat) (f0 R : Fact) (J Jx : List (List UInt8) → Fact → Prop) (hJ0 : J [] f0) (hJo : ∀ pre f, J pre f → f.own = true) (hRo : R.own = false) (hY : Yc Tryd.prog l J Jx R insB)
    (hp : p.length ≤ 70368744177664) (hm : Mem w (f0 :: R :: [bkF bx ty_sl_uint8 [.slice A p.length c], bsF A p])) :
    Con Tryd.prog n_sha_Blocks_1 #[.func (.yield l) #[] #[], .pointer (some ⟨bx, 0, none⟩)] w [f0, bkF bx ty_sl_uint8 [.slice A p.length c]]
      (fun _ Fs => ∃ f Fs', Fs = f :: Fs' ∧ ((∃ xs, J xs f ∧ xs = blks (p ++ ends p.length) ((p ++ ends p.length).length / 64) ∧ Fs' = []) ∨ (∃ pre, Jx pre f ∧ Fs' = []))) := by
  have g := good_sha_Blocks_1 w (Un [f0, bkF bx ty_sl_uint8 [.slice A p.length c]]) [bx]
  have hs0 : Sat (cx_sha_Blocks_1 w (Un [f0, bkF bx ty_sl_uint8 [.slice A p.length c]]) [bx]) (Va.of fun _ => bx) 1 [] (f0 :: R :: [bkF bx ty_sl_uint8 [.slice A p.length c], bsF A p]) w := by
    refine hm.sat rfl (fun f hf ho k hk => ?_) ⟨Nat.le_refl 1, fun i hi => by obtain rfl : i = 0 := Nat.lt_one_iff.1 hi; rfl⟩
    simp only [List.mem_cons, List.not_mem_nil, or_false] at hf
    rcases hf with rfl | rfl | rfl | rfl
    · exact ⟨_, by simp, hk⟩
    · rw [hRo] at ho; cases ho
    · exact ⟨_, by simp, hk⟩
    · cases ho
  have hs1 := hs0.toBk 2 rfl 0 Nat.zero_lt_one rfl
  have hf0 := hJo _ _ hJ0
  refine con_of_sx (cx := cx_sha_Blocks_1 w (Un [f0, bkF bx ty_sl_uint8 [.slice A p.length c]]) [bx]) g b_sha_Blocks_1 rfl rfl (β := Va.of fun _ => bx) [.c (.v (.func (.yield l) #[] #[])), .c (.p 0 0)] 1 [⟨0, ty_sl_uint8, [.v (.slice A p.length c)]⟩] [f0, R, bsF A p] rfl rfl hs1 ?_
  refine draw_rule g p_sha_Blocks_1_0 (by kernel_rfl) [⟨0, ty_sl_uint8, [.v (.slice A p.length c)]⟩] [f0, R, bsF A p] Sub.refl ?_
  refine ⟨((p.length : Nat) : Int), by rw [wrap_u64']; omega, ?_⟩
  refine call_con [] (fun β w' hs => clone_c w' A p c (hs.get 2 rfl) (by omega)) ?_
  rintro v Fs ⟨A1, c1, rfl, h1, h2, rfl⟩
  refine ⟨Sub.dropF 1 rfl, ?_⟩
  refine call_con [] (fun β w' hs => ends_c w' p.length (by omega)) ?_
  rintro v Fs ⟨A2, c2, rfl, h3, h4, rfl⟩
  refine ⟨Sub.dropF 2 rfl, ?_⟩
  obtain ⟨q, hq⟩ : ∃ q, p ++ ends p.length = q := ⟨_, rfl⟩
  have hql : q.length = p.length + (ends p.length).length := by rw [← hq, List.length_append]
  have hel : (ends p.length).length < 73 := by rw [Sha.ends_len]; unfold zeros; omega
  have hqm : q.length % 64 = 0 := by rw [← hq]; exact Sha.pad_mod p
  rw [hq]
  refine ⟨1, p.length, q.length, _, (ends p.length).map byte, q.map byte, rfl, fun β w hs => row_rd (hs.get 0 rfl), bytes_one _, hql.symm, by rw [← hq, List.map_append], by rw [maxLen_eq]; omega, by show q.length * 1 ≤ _; omega, ?_⟩
  intro A3 c3 h5 h6 _
  refine ⟨Sub.dropF 2 rfl, ?_⟩
  refine loop_rule (ι := Nat × Option Addr × Nat × Fact) 1 (fun i => [(0, .c (.v (.func (.yield l) #[] #[]))), (3, .c (.v (.slice i.2.1 (q.length - 64 * i.1) i.2.2.1)))]) (fun _ => [⟨0, ty_sl_uint8, [.v (.slice A p.length c)]⟩])
    (fun i => [browF ty_uint8 A3 q c3, i.2.2.2, R])
    (fun i => 64 * i.1 ≤ q.length ∧ q.length - 64 * i.1 ≤ i.2.2.1 ∧ i.2.2.1 ≤ maxLen ∧ J (blks q i.1) i.2.2.2 ∧ (∀ w, Bs w A3 q → Bs w i.2.1 (q.drop (64 * i.1))) ∧ (∀ ad, i.2.1 = some ad → ∃ ad3, A3 = some ad3 ∧ ad.block = ad3.block)) (fun i => q.length - 64 * i.1) (0, A3, c3, f0)
    ⟨Nat.zero_le _, h5, h6, hJ0, fun w h => h, fun ad h => ⟨ad, h, rfl⟩⟩ (Ent.mk' ⟨rfl, rfl, trivial⟩ rfl (fun β w' hs => hs.weaken (List.Sublist.refl _) (List.Sublist.cons _ (List.Sublist.cons_cons _ (List.Sublist.cons_cons _ (List.Sublist.cons_cons _ (List.nil_sublist _))))))) g ?_
  rintro ⟨i, B, cap, f⟩ ⟨hi, hcap, hcm, hJ, hB, hBD⟩
  simp only at hi hcap hcm hJ hB hBD
  have hfo := hJo _ _ hJ
  obtain ⟨m, hm⟩ : ∃ m, q.length - 64 * i = m := ⟨_, rfl⟩
  have hmc : m ≤ cap := by omega
  rw [hm]
  have hdl : (q.drop (64 * i)).length = m := by rw [List.length_drop]; omega
  refine BIf.dec (fun h0 => ?_) (fun h0 => ?_)
  · have hm64 : 64 ≤ m := by omega
    have hbl : (blk q i).length = 64 := by unfold blk; rw [List.length_take, hdl]; omega
    refine ⟨64, 64, 0, 64, 64, _, rfl, rfl, rfl, by show 64 ≤ cap; omega, by omega, by omega, rfl, rfl, rfl, ?_⟩
    have hcutD : ∀ k, (bsF (cutA B 64 0 1) (blk q i)).D k → (browF ty_uint8 A3 q c3).D k := by
      rintro k ⟨_, ad, had, rfl⟩
      simp only [cutA] at had
      rw [if_neg (by decide)] at had
      cases B with
      | none => cases had
      | some ad0 =>
        obtain rfl : ad0.add (0 * 1) = ad := by simpa using had
        obtain ⟨ad3, h7, h8⟩ := hBD ad0 rfl
        subst h7
        have : (ad0.add (0 * 1)).block = ad0.block := by unfold Addr.add; split <;> rfl
        show some ad3.block = some (ad0.add (0 * 1)).block
        rw [this, h8]
    refine yield_ro (x := blk q i) (X := bsF (cutA B 64 0 1) (blk q i)) hY 1 2 rfl hJ hfo rfl hRo (by decide) (fun β => ⟨hbl, _, rfl, rfl⟩) rfl (fun β w' hs => ⟨?_, fun k hk => hs.getLt 0 rfl k (hcutD k hk), fun k hk hk' => ?_⟩) ?_ ?_
    · have h7 := Bs.cut (hB w' (row_rd (hs.get 0 rfl))) (c := cap) (m := 64) (i := 0) (j := 64) (by omega) (.inr (Nat.le_refl _)) (by omega) (by omega) (by omega)
      have h8 : Rd 1 (cutA B 64 0 1) (blk q i).length ((blk q i).map byte) w' := by rw [hbl]; exact h7
      exact h8
    · exact hs.apart (i := 1) (j := 0) rfl rfl (by decide) (.inr rfl) k hk (hcutD k hk')
    · intro f2 hfo2 hJ2
      refine ⟨cap, m, 64, m - 64, cap - 64, _, rfl, rfl, rfl, Nat.le_refl _, hmc, hm64, rfl, rfl, rfl, ?_⟩
      refine ⟨(i + 1, cutA B cap 64 1, cap - 64, f2), ⟨by show 64 * (i + 1) ≤ _; omega, by show q.length - 64 * (i + 1) ≤ cap - 64; omega, by show cap - 64 ≤ _; omega, by show J (blks q (i + 1)) f2; rw [blks_succ]; exact hJ2, fun w' h => ?_, fun ad had => ?_⟩, by show q.length - 64 * (i + 1) < m; omega, Ent.mk' ⟨rfl, ?_, trivial⟩ rfl (fun β w' hs => ?_)⟩
      · have h7 := Bs.cutB (hB w' h) (c := cap) (i := 64) (j := m) (m := q.drop (64 * (i + 1))) (by omega) hm64 (by omega) (by
          rw [List.drop_drop, show 64 * i + 64 = 64 * (i + 1) by omega, List.take_of_length_le]
          rw [List.length_drop]; omega)
        exact h7
      · have had' : cutA B cap 64 1 = some ad := had
        unfold cutA at had'
        split at had'
        · exact hBD ad had'
        · cases B with
          | none => cases had'
          | some ad0 =>
            obtain rfl : ad0.add (64 * 1) = ad := by simpa using had'
            obtain ⟨ad3, h7, h8⟩ := hBD ad0 rfl
            refine ⟨ad3, h7, ?_⟩
            rw [← h8]
            unfold Addr.add; split <;> rfl
      · show _ = some (SV.c (.v (.slice _ (q.length - 64 * (i + 1)) _)))
        rw [show q.length - 64 * (i + 1) = m - 64 by omega]
        rfl
      · exact (hs.keepB (List.Sublist.refl _)).perm [1, 0, 2]
    · intro f2 hfo2 hJ2 β w' hs
      exact hs.fin [0] ⟨f2, [], rfl, .inr ⟨_, hJ2, rfl⟩⟩ rfl rfl rfl ⟨hfo2, trivial⟩
  · have hi2 : i = q.length / 64 := by omega
    intro β w' hs
    exact hs.fin [1] ⟨f, [], rfl, .inl ⟨_, hJ, by rw [hi2], rfl⟩⟩ rfl rfl rfl ⟨hfo, trivial⟩
end Go.Proofs.YthkjfepbmnabkaaDoor.Sx
