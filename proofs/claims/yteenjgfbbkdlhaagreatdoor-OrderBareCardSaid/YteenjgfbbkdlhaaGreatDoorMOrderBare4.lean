/- Texts joined: Sha5, Sha6, Sha7, Sha8, Sha9, Pd0, Pd4, Pd5, Nam1, Nam2, Nam3, Nam4, Nam5, Nam6, Nam7, Nam8, Rl1, Rl4, Gn1, Nam9, NamP, NmT, Gn2, Or1, Iter, StrS, RoF, StoL, Sto1, Sto2, Keys, Key2, RHx, Rl2, B6L, RnP, Rn1, Rn2, Rn3, Rn4, B6V, B6G, B6D, B6W, B6E, B6U, Kr1, Bk2, Box1, Box2, Join, Bk3, Bk4, Bk5, Srt, Bk6, Bk7, Bk8, Bk9, Xor, Trn, Turn, Ak5, Ak6, Han, Kr2, Kr3, SxIter, KyJ, CoJ, StepG, SumJ, HmL, Rep, Rep2, Hm1. -/
import Derived.Test.YteenjgfbbkdlhaaGreatDoorMOrderBare3
import Derived.Test.YteenjgfbbkdlhaaGreatDoorMOrderBare2
import Derived.Shelf.SlGeneric
import Derived.Shelf.SlIter.Nil
import Derived.Shelf.SortM.Plain
import Derived.Shelf.SortM.SortNone
import Derived.Ground.GgzProg
import Derived.Ground.SlgmProg
import Derived.Test.YteenjgfbbkdlhaaGreatDoorProg
import Derived.Maps.Keyed
import Derived.Below
import Derived.Lib.Join
import Derived.Lib.SlParts
import Derived.Lib.SlFresh
import Derived.Sort.OwnSortedInts
import Derived.Maps.RangeRun
import Derived.Lib.MakeNoZero
import Derived.Laws.Externs
set_option linter.unusedVariables false
set_option linter.unusedSimpArgs false
namespace Go.Proofs.YteenjgfbbkdlhaaGreatDoor.Sx
open Go Sha
attribute [local irreducible] Calls
theorem clone_c (w : World) (A : Option Addr) (l : List UInt8) (c : Nat) (hr : Bs w A l) (hn : l.length ≤ 140737488355328) :
    Con Tryz.prog n_bytes_Clone #[.slice A l.length c] w [] fun v Fs => ∃ A' c', v = .slice A' l.length c' ∧ l.length ≤ c' ∧ c' ≤ maxLen ∧ Fs = [browF ty_uint8 A' l c'] := by
  refine con_of_sx (cx := cx_bytes_Clone w (Un [])) (good_bytes_Clone w (Un [])) b_bytes_Clone rfl rfl (β := Va.z) [.c (.v (.slice A l.length c))] 0 [] [bsF A l] rfl rfl ((Sat.start rfl).rd (fun _ h => by cases h) hr) ?_
  refine BIf.mk (fun h => ?_) (fun h => ?_)
  · intro β w' hs
    have hA : A = none := by simpa using h
    subst hA
    have hl : l = [] := by
      cases l with
      | nil => rfl
      | cons x r => obtain ⟨ad, q⟩ := Bs.addr hr (by simp); cases q
    subst hl
    exact (hs.nilRow ty_uint8 1).fin [0] ⟨none, 0, rfl, Nat.le_refl _, Nat.zero_le _, rfl⟩
  intro b
  refine ⟨0, 0, l.length, [], l.map byte, _, rfl, fun β w hs => hs.get 1 rfl, bytes_one l, Nat.zero_add _, rfl, by rw [maxLen_eq]; omega, by show l.length * 1 ≤ _; omega, ?_⟩
  intro A' c' h1 h2 h3 β w' hs
  exact hs.fin [0] ⟨A', c', rfl, h1, h2, rfl⟩
def blk (q : List UInt8) (i : Nat) : List UInt8 := (q.drop (64 * i)).take 64
def blks (q : List UInt8) (n : Nat) : List (List UInt8) := (List.range n).map (blk q)
theorem blks_succ (q : List UInt8) (n : Nat) : blks q (n + 1) = blks q n ++ [blk q n] := by simp [blks, List.range_succ]
theorem go_eq : ∀ (n : Nat) (s : S8) (q : List UInt8), go n s q = (blks q n).foldl Sha.step s
  | 0, s, q => rfl
  | n + 1, s, q => by
    rw [go, go_eq n]
    have : blks q (n + 1) = q.take 64 :: blks (q.drop 64) n := by
      simp only [blks, List.range_succ_eq_map, List.map_cons, List.map_map]
      congr 1
      refine List.map_congr_left fun i _ => ?_
      simp only [Function.comp, blk, List.drop_drop]
      rw [show 64 * (i + 1) = 64 + 64 * i by omega]
    rw [this, List.foldl_cons]
def insB (x : List UInt8) (args : Array Value) (X : Fact) : Prop := x.length = 64 ∧ ∃ B, args = #[.slice B 64 64] ∧ X = bsF B x
theorem blocks_it (l : Nat) (w : World) (bx : Nat) (A : Option Addr) (p : List UInt8) (c : Nat) (f0 R : Fact) (J Jx : List (List UInt8) → Fact → Prop) (hJ0 : J [] f0) (hJo : ∀ pre f, J pre f → f.own = true) (hRo : R.own = false) (hY : Yc Tryz.prog l J Jx R (fun _ => insB))
    (hp : p.length ≤ 70368744177664) (hm : Mem w (f0 :: R :: [bkF bx ty_sl_uint8 [.slice A p.length c], bsF A p])) :
    Con Tryz.prog n_sha_Blocks_1 #[.func (.yield l) #[] #[], .pointer (some ⟨bx, 0, none⟩)] w [f0, bkF bx ty_sl_uint8 [.slice A p.length c]]
      (fun _ Fs => ∃ f Fs', Fs = f :: Fs' ∧ ((∃ xs, J xs f ∧ xs = blks (p ++ ends p.length) ((p ++ ends p.length).length / 64) ∧ Fs' = []) ∨ (∃ pre, Jx pre f ∧ Fs' = []))) := by
  have g := good_sha_Blocks_1 w (Un [f0, bkF bx ty_sl_uint8 [.slice A p.length c]]) [bx]
  have hs0 : Sat (cx_sha_Blocks_1 w (Un [f0, bkF bx ty_sl_uint8 [.slice A p.length c]]) [bx]) (Va.of fun _ => bx) 1 [] (f0 :: R :: [bkF bx ty_sl_uint8 [.slice A p.length c], bsF A p]) w := by
    refine hm.sat rfl (fun f hf ho k hk => ?_) ⟨Nat.le_refl 1, fun i hi => by obtain rfl : i = 0 := Nat.lt_one_iff.1 hi; rfl⟩
    simp only [List.mem_cons, List.not_mem_nil, or_false] at hf
    rcases hf with rfl | rfl | rfl | rfl
    · exact ⟨_, by simp, hk⟩
    · rw [hRo] at ho; cases ho
    · exact ⟨_, by simp, hk⟩
    · cases ho
  have hs1 := hs0.toBk 2 rfl 0 Nat.zero_lt_one rfl
  have hf0 := hJo _ _ hJ0
  refine con_of_sx (cx := cx_sha_Blocks_1 w (Un [f0, bkF bx ty_sl_uint8 [.slice A p.length c]]) [bx]) g b_sha_Blocks_1 rfl rfl (β := Va.of fun _ => bx) [.c (.v (.func (.yield l) #[] #[])), .c (.p 0 0)] 1 [⟨0, ty_sl_uint8, [.v (.slice A p.length c)]⟩] [f0, R, bsF A p] rfl rfl hs1 ?_
  refine draw_rule g p_sha_Blocks_1_0 (by kernel_rfl) [⟨0, ty_sl_uint8, [.v (.slice A p.length c)]⟩] [f0, R, bsF A p] Sub.refl ?_
  refine ⟨((p.length : Nat) : Int), by rw [wrap_u64']; omega, ?_⟩
  refine call_con [] (fun β w' hs => clone_c w' A p c (hs.get 2 rfl) (by omega)) ?_
  rintro v Fs ⟨A1, c1, rfl, h1, h2, rfl⟩
  refine ⟨Sub.dropF 1 rfl, ?_⟩
  refine call_con [] (fun β w' hs => ends_c w' p.length (by omega)) ?_
  rintro v Fs ⟨A2, c2, rfl, h3, h4, rfl⟩
  refine ⟨Sub.dropF 2 rfl, ?_⟩
  obtain ⟨q, hq⟩ : ∃ q, p ++ ends p.length = q := ⟨_, rfl⟩
  have hql : q.length = p.length + (ends p.length).length := by rw [← hq, List.length_append]
  have hel : (ends p.length).length < 73 := by rw [Sha.ends_len]; unfold zeros; omega
  have hqm : q.length % 64 = 0 := by rw [← hq]; exact Sha.pad_mod p
  rw [hq]
  refine ⟨1, p.length, q.length, _, (ends p.length).map byte, q.map byte, rfl, fun β w hs => row_rd (hs.get 0 rfl), bytes_one _, hql.symm, by rw [← hq, List.map_append], by rw [maxLen_eq]; omega, by show q.length * 1 ≤ _; omega, ?_⟩
  intro A3 c3 h5 h6 _
  refine ⟨Sub.dropF 2 rfl, ?_⟩
  refine loop_rule (ι := Nat × Option Addr × Nat × Fact) 1 (fun i => [(0, .c (.v (.func (.yield l) #[] #[]))), (3, .c (.v (.slice i.2.1 (q.length - 64 * i.1) i.2.2.1)))]) (fun _ => [⟨0, ty_sl_uint8, [.v (.slice A p.length c)]⟩])
    (fun i => [browF ty_uint8 A3 q c3, i.2.2.2, R])
    (fun i => 64 * i.1 ≤ q.length ∧ q.length - 64 * i.1 ≤ i.2.2.1 ∧ i.2.2.1 ≤ maxLen ∧ J (blks q i.1) i.2.2.2 ∧ (∀ w, Bs w A3 q → Bs w i.2.1 (q.drop (64 * i.1))) ∧ (∀ ad, i.2.1 = some ad → ∃ ad3, A3 = some ad3 ∧ ad.block = ad3.block)) (fun i => q.length - 64 * i.1) (0, A3, c3, f0)
    ⟨Nat.zero_le _, h5, h6, hJ0, fun w h => h, fun ad h => ⟨ad, h, rfl⟩⟩ (Ent.mk' ⟨rfl, rfl, trivial⟩ rfl (fun β w' hs => hs.weaken (List.Sublist.refl _) (List.Sublist.cons _ (List.Sublist.cons_cons _ (List.Sublist.cons_cons _ (List.Sublist.cons_cons _ (List.nil_sublist _))))))) g ?_
  rintro ⟨i, B, cap, f⟩ ⟨hi, hcap, hcm, hJ, hB, hBD⟩
  simp only at hi hcap hcm hJ hB hBD
  have hfo := hJo _ _ hJ
  obtain ⟨m, hm⟩ : ∃ m, q.length - 64 * i = m := ⟨_, rfl⟩
  have hmc : m ≤ cap := by omega
  rw [hm]
  have hdl : (q.drop (64 * i)).length = m := by rw [List.length_drop]; omega
  refine BIf.dec (fun h0 => ?_) (fun h0 => ?_)
  · have hm64 : 64 ≤ m := by omega
    have hbl : (blk q i).length = 64 := by unfold blk; rw [List.length_take, hdl]; omega
    refine ⟨64, 64, 0, 64, 64, _, rfl, rfl, rfl, by show 64 ≤ cap; omega, by omega, by omega, rfl, rfl, rfl, ?_⟩
    have hcutD : ∀ k, (bsF (cutA B 64 0 1) (blk q i)).D k → (browF ty_uint8 A3 q c3).D k := by
      rintro k ⟨_, ad, had, rfl⟩
      simp only [cutA] at had
      rw [if_neg (by decide)] at had
      cases B with
      | none => cases had
      | some ad0 =>
        obtain rfl : ad0.add (0 * 1) = ad := by simpa using had
        obtain ⟨ad3, h7, h8⟩ := hBD ad0 rfl
        subst h7
        have : (ad0.add (0 * 1)).block = ad0.block := by unfold Addr.add; split <;> rfl
        show some ad3.block = some (ad0.add (0 * 1)).block
        rw [this, h8]
    refine yield_ro (x := blk q i) (X := bsF (cutA B 64 0 1) (blk q i)) hY 1 2 rfl hJ hfo rfl hRo (by decide) (fun β => ⟨hbl, _, rfl, rfl⟩) rfl (fun β w' hs => ⟨?_, fun k hk => hs.getLt 0 rfl k (hcutD k hk), fun k hk hk' => ?_⟩) ?_ ?_
    · have h7 := Bs.cut (hB w' (row_rd (hs.get 0 rfl))) (c := cap) (m := 64) (i := 0) (j := 64) (by omega) (.inr (Nat.le_refl _)) (by omega) (by omega) (by omega)
      have h8 : Rd 1 (cutA B 64 0 1) (blk q i).length ((blk q i).map byte) w' := by rw [hbl]; exact h7
      exact h8
    · exact hs.apart (i := 1) (j := 0) rfl rfl (by decide) (.inr rfl) k hk (hcutD k hk')
    · intro f2 hfo2 hJ2
      refine ⟨cap, m, 64, m - 64, cap - 64, _, rfl, rfl, rfl, Nat.le_refl _, hmc, hm64, rfl, rfl, rfl, ?_⟩
      refine ⟨(i + 1, cutA B cap 64 1, cap - 64, f2), ⟨by show 64 * (i + 1) ≤ _; omega, by show q.length - 64 * (i + 1) ≤ cap - 64; omega, by show cap - 64 ≤ _; omega, by show J (blks q (i + 1)) f2; rw [blks_succ]; exact hJ2, fun w' h => ?_, fun ad had => ?_⟩, by show q.length - 64 * (i + 1) < m; omega, Ent.mk' ⟨rfl, ?_, trivial⟩ rfl (fun β w' hs => ?_)⟩
      · have h7 := Bs.cutB (hB w' h) (c := cap) (i := 64) (j := m) (m := q.drop (64 * (i + 1))) (by omega) hm64 (by omega) (by
          rw [List.drop_drop, show 64 * i + 64 = 64 * (i + 1) by omega, List.take_of_length_le]
          rw [List.length_drop]; omega)
        exact h7
      · have had' : cutA B cap 64 1 = some ad := had
        unfold cutA at had'
        split at had'
        · exact hBD ad had'
        · cases B with
          | none => cases had'
          | some ad0 =>
            obtain rfl : ad0.add (64 * 1) = ad := by simpa using had'
            obtain ⟨ad3, h7, h8⟩ := hBD ad0 rfl
            refine ⟨ad3, h7, ?_⟩
            rw [← h8]
            unfold Addr.add; split <;> rfl
      · show _ = some (SV.c (.v (.slice _ (q.length - 64 * (i + 1)) _)))
        rw [show q.length - 64 * (i + 1) = m - 64 by omega]
        rfl
      · exact (hs.keepB (List.Sublist.refl _)).perm [1, 0, 2]
    · intro f2 hfo2 hJ2 β w' hs
      exact hs.fin [0] ⟨f2, [], rfl, .inr ⟨_, hJ2, rfl⟩⟩ rfl rfl rfl ⟨hfo2, trivial⟩
  · have hi2 : i = q.length / 64 := by omega
    intro β w' hs
    exact hs.fin [1] ⟨f, [], rfl, .inl ⟨_, hJ, by rw [hi2], rfl⟩⟩ rfl rfl rfl ⟨hfo, trivial⟩
theorem rd_sub_row {e size k n c : Nat} {A : Option Addr} {xs ys : List Value} : ∀ g, (rdF size A k xs).D g → (rowF e size (.slice A n c) n ys).D g := by
  rintro g ⟨_, ad, rfl, rfl⟩
  rfl
theorem Mem.lastRd {w : World} {f R X : Fact} {e c : Nat} {A : Option Addr} {l : List UInt8} (h : Mem w [f, R, X, browF e A l c]) : Mem w [f, R, X, bsF A l] := by
  have hp : Bs w A l := row_rd (h.fact (browF e A l c) (by simp))
  refine ⟨fun g hg => ?_, fun g hg k hk => ?_, ?_⟩
  · simp only [List.mem_cons, List.not_mem_nil, or_false] at hg
    rcases hg with rfl | rfl | rfl | rfl
    · exact h.fact _ (by simp)
    · exact h.fact _ (by simp)
    · exact h.fact _ (by simp)
    · exact hp
  · simp only [List.mem_cons, List.not_mem_nil, or_false] at hg
    rcases hg with rfl | rfl | rfl | rfl
    · exact h.flt g (by simp) k hk
    · exact h.flt g (by simp) k hk
    · exact h.flt g (by simp) k hk
    · exact h.flt (browF e A l c) (by simp) k (rd_sub_row k hk)
  · obtain ⟨h1, h2⟩ := List.pairwise_cons.1 h.sepf
    obtain ⟨h3, h4⟩ := List.pairwise_cons.1 h2
    obtain ⟨h5, _⟩ := List.pairwise_cons.1 h4
    refine List.pairwise_cons.2 ⟨fun g hg ho => ?_, List.pairwise_cons.2 ⟨fun g hg ho => ?_, List.pairwise_cons.2 ⟨fun g hg ho => ?_, List.pairwise_singleton _ _⟩⟩⟩
    · simp only [List.mem_cons, List.not_mem_nil, or_false] at hg
      rcases hg with rfl | rfl | rfl
      · exact h1 _ (by simp) ho
      · exact h1 _ (by simp) ho
      · exact fun k hk q => h1 (browF e A l c) (by simp) (.inr rfl) k hk (rd_sub_row k q)
    · simp only [List.mem_cons, List.not_mem_nil, or_false] at hg
      rcases hg with rfl | rfl
      · exact h3 _ (by simp) ho
      · exact fun k hk q => h3 (browF e A l c) (by simp) (.inr rfl) k hk (rd_sub_row k q)
    · obtain rfl := List.mem_singleton.1 hg
      exact fun k hk q => h5 (browF e A l c) (by simp) (.inr rfl) k hk (rd_sub_row k q)
theorem Blocks_c (w : World) (A : Option Addr) (n c : Nat) : Con Tryz.prog n_sha_Blocks #[.slice A n c] w [] (fun v Fs => ∃ bx, v = .func (.func n_sha_Blocks_1) #[] #[.pointer (some ⟨bx, 0, none⟩)] ∧ Fs = [bkF bx ty_sl_uint8 [.slice A n c]]) := by
  refine con_of_sx (cx := cx_sha_Blocks w (Un [])) (good_sha_Blocks w (Un [])) b_sha_Blocks rfl rfl (β := Va.z) [.c (.v (.slice A n c))] 0 [] [] rfl rfl (Sat.start rfl) ?_
  intro β w' hs
  exact hs.ofBk.fin [0] ⟨β 0, rfl, rfl⟩
theorem join1_c (w : World) (P A : Option Addr) (cP c : Nat) (l : List UInt8) (hP : Rd 1 P 1 [.slice A l.length c] w) (hr : Bs w A l) (hn : l.length ≤ 140737488355328) :
    Con Tryz.prog n_bytes_Join #[.slice P 1 cP, .slice none 0 0] w [] fun v Fs => ∃ A' c', v = .slice A' l.length c' ∧ l.length ≤ c' ∧ c' ≤ maxLen ∧ Fs = [browF ty_uint8 A' l c'] := by
  have hs0 : Sat (cx_bytes_Join w (Un [])) Va.z 0 [] [oldF w] w := old_sat rfl
  refine con_of_sx (cx := cx_bytes_Join w (Un [])) (good_bytes_Join w (Un [])) b_bytes_Join rfl rfl (β := Va.z) [.c (.v (.slice P 1 cP)), .c (.v (.slice none 0 0))] 0 [] [browF ty_uint8 none [] 0, oldF w] rfl rfl (hs0.nilRow _ _) ?_
  obtain ⟨ad, rfl, hc⟩ := hP.2 (by decide)
  refine ⟨ad, 0, rfl, rfl, by decide, .slice A l.length c, fun β w' hs => ?_, ?_⟩
  · have h1 : Rd 1 (some ad) 1 [.slice A l.length c] w' := hP.old (hs.get 1 rfl)
    obtain ⟨ad', h2, h3⟩ := h1.2 (by decide)
    obtain rfl := Option.some.inj h2
    exact h3 0 _ rfl
  refine ⟨0, 0, l.length, [], l.map byte, _, rfl, fun β w' hs => hr.old (hs.get 1 rfl), bytes_one l, Nat.zero_add _, rfl, by rw [maxLen_eq]; omega, by show l.length * 1 ≤ _; omega, ?_⟩
  intro A' c' h1 h2 h3 β w' hs
  exact hs.fin [0] ⟨A', c', rfl, h1, h2, rfl⟩
theorem step64_c (w : World) (b ty : Nat) (s : S8) (A : Option Addr) (x : List UInt8) (hx : x.length = 64) (hm : Mem w [stF b ty s, bsF A x, oddF 5]) :
    Con Tryz.prog n_sha_state_step #[.pointer (some ⟨b, 0, none⟩), .slice A 64 64] w [stF b ty s] fun v Fs => v = .tuple #[] ∧ Fs = [stF b ty (Sha.step s x)] := by
  have := step_c w b ty s A x 64 hm (by omega) (by omega) (by decide)
  rw [hx] at this
  exact this
def firstF (g : Nat) : Fact := rdF 1 (some ⟨g, 0, none⟩) 8 (Sha.first.l.map u32)
theorem sum1_c (w : World) (P A : Option Addr) (cP c : Nat) (l : List UInt8) (hP : Rd 1 P 1 [.slice A l.length c] w) (hr : Bs w A l) (hn : l.length ≤ 70368744177664) (h1 : (oddF 5).p w) (h0 : (firstF 2).p w) :
    Con Tryz.prog n_sha_Sum #[.slice P 1 cP] w [] fun v Fs => ∃ A' c', v = .slice A' 32 c' ∧ 32 ≤ c' ∧ c' ≤ maxLen ∧ Fs = [browF ty_uint8 A' (Sha.sum l) c'] := by
  have g := good_sha_Sum w (Un [])
  have hs0 : Sat (cx_sha_Sum w (Un [])) Va.z 0 [] [oldF w] w := old_sat rfl
  have hs1 : Sat (cx_sha_Sum w (Un [])) Va.z 0 [] [oddF 5, oldF w] w := hs0.sub 0 rfl rfl _ rfl h1 (rd_lt h1)
  refine con_of_sx (cx := cx_sha_Sum w (Un [])) g b_sha_Sum rfl rfl (β := Va.z) [.c (.v (.slice P 1 cP))] 0 [] [oddF 5, oldF w] rfl rfl hs1 ?_
  refine ⟨Sha.first.l.map u32, rfl, fun β w' hs j u hu => ?_, ?_⟩
  · have h2 : Rd 1 (some ⟨2, 0, none⟩) 8 (Sha.first.l.map u32) w' := Rd.old h0 (hs.get 1 rfl)
    obtain ⟨ad, h3, h4⟩ := h2.2 (by decide)
    obtain rfl := Option.some.inj h3
    exact h4 j u hu
  refine call_con [] (fun β w' hs => join1_c w' P A cP c l (hP.old (hs.get 1 rfl)) (hr.old (hs.get 1 rfl)) (by omega)) ?_
  rintro v Fs ⟨A1, c1, rfl, h2, h3, rfl⟩
  refine call_con [] (fun β w' hs => Blocks_c w' A1 l.length c1) ?_
  rintro v Fs ⟨bx, rfl, rfl⟩
  refine reify_rule g 0 (fun _ => Sha.first.l.map u32) rfl rfl (fun _ => rfl) (fun sb => ?_)
  obtain ⟨q, hq⟩ : ∃ q, l ++ ends l.length = q := ⟨_, rfl⟩
  have hsum : Sha.sum l = out ((blks q (q.length / 64)).foldl Sha.step Sha.first) := by rw [← go_eq, ← hq]; rfl
  rw [hsum]
  refine range_rule (α := List UInt8) (ι := S8) (κ := S8) g rfl (cv := [.pointer (some ⟨bx, 0, none⟩)]) rfl (by kernel_rfl) 1 (Nat.le_refl 1)
    (fun pre s => s = pre.foldl Sha.step Sha.first) (fun _ => []) (fun s => [stF sb 291 s]) (fun _ => ⟨rfl, trivial⟩)
    (fun _ _ _ => False) (fun _ => []) (fun _ => []) (fun _ => trivial)
    [bkF bx ty_sl_uint8 [.slice A1 l.length c1]] [browF ty_uint8 A1 l c1] [oddF 5] ⟨rfl, trivial⟩ (fun g hg => by obtain rfl := List.mem_singleton.1 hg; rfl)
    Sha.first rfl (fun β w' hs => ⟨β, Agr.refl _ _, hs.perm [1, 2, 0, 3]⟩) (fun _ => insB)
    (fun xs Fs' => xs = blks q (q.length / 64) ∧ Fs' = []) (fun _ Fs' => Fs' = [])
    (fun l' w' f0 R J Jx hJ0 hJo hRo hY hm => (blocks_it l' w' bx A1 l c1 f0 R J Jx hJ0 hJo hRo hY hn hm.lastRd).mono fun _ Fs h => by rw [hq] at h; exact h) ?_ ?_ ?_
  · rintro s pre x args X W S l' bs pn pn' hbs hpre ⟨hx, B, rfl, rfl⟩
    refine ⟨_, rfl, ?_⟩
    refine call_con [1] (fun β w' hs => step64_c w' sb 291 s B x hx (hs.mem.take (js := [1, 0, 2]) rfl)) ?_
    rintro v Fs ⟨rfl, rfl⟩
    refine ⟨Sha.step s x, by show Sha.step s x = (pre ++ [x]).foldl Sha.step Sha.first; rw [List.foldl_append, hpre]; rfl, Ent.mk' trivial rfl (fun β w' hs => ?_)⟩
    exact hs.weaken (List.Sublist.refl _) (List.Sublist.cons_cons _ (List.nil_sublist _))
  · rintro xs s Fs hpre ⟨rfl, rfl⟩
    refine call_con [0] (fun β w' hs => stbytes_c w' sb 291 s (hs.mem.take (js := [0]) rfl)) ?_
    rintro v Fs ⟨A3, c3, rfl, h5, h6, rfl⟩
    intro β w' hs
    refine hs.fin [1] ⟨A3, c3, rfl, h5, h6, ?_⟩
    rw [← hpre]
    rfl
  · rintro e pre s Fs h _
    exact h.elim
theorem be4 (x : UInt32) : be 4 x.toNat = b4 x := by
  have hx := x.toNat_lt
  simp only [be, b4, List.nil_append, List.cons_append]
  have e : ∀ n, n < 256 → ∀ y : UInt8, y.toNat = n → UInt8.ofNat n = y := fun n _ y h => by rw [← h, UInt8.ofNat_toNat]
  have h1 : ∀ k : Nat, k < 32 → (x >>> UInt32.ofNat k).toNat = x.toNat / 2 ^ k := fun k hk => by
    rw [UInt32.toNat_shiftRight, UInt32.toNat_ofNat', Nat.mod_eq_of_lt (show k < 2 ^ 32 by omega), Nat.mod_eq_of_lt hk, Nat.shiftRight_eq_div_pow]
  congr 1
  · exact e _ (by omega) _ (by rw [UInt32.toNat_toUInt8, show (24 : UInt32) = UInt32.ofNat 24 from rfl, h1 24 (by omega)] <;> omega)
  congr 1
  · exact e _ (by omega) _ (by rw [UInt32.toNat_toUInt8, show (16 : UInt32) = UInt32.ofNat 16 from rfl, h1 16 (by omega)] <;> omega)
  congr 1
  · exact e _ (by omega) _ (by rw [UInt32.toNat_toUInt8, show (8 : UInt32) = UInt32.ofNat 8 from rfl, h1 8 (by omega)] <;> omega)
  congr 1
  exact e _ (by omega) _ (by rw [UInt32.toNat_toUInt8])
structure SecA where
  A0 : Option Addr
  A1 : Option Addr
  A2 : Option Addr
  A3 : Option Addr
  c0 : Nat
  c1 : Nat
  c2 : Nat
  c3 : Nat
  s0 : List UInt8
  s1 : List UInt8
  s2 : List UInt8
  s3 : List UInt8
  it : Int
def SecA.val (x : SecA) : Value := .agg #[.slice x.A0 x.s0.length x.c0, .int .i64 x.it, .slice x.A1 x.s1.length x.c1, .slice x.A2 x.s2.length x.c2, .slice x.A3 x.s3.length x.c3]
def SecA.cells (x : SecA) : List SL := [.v (.slice x.A0 x.s0.length x.c0), .v (.int .i64 x.it), .v (.slice x.A1 x.s1.length x.c1), .v (.slice x.A2 x.s2.length x.c2), .v (.slice x.A3 x.s3.length x.c3)]
structure SecA.Rd (x : SecA) (w : World) : Prop where
  h0 : Bs w x.A0 x.s0
  h1 : Bs w x.A1 x.s1
  h2 : Bs w x.A2 x.s2
  h3 : Bs w x.A3 x.s3
theorem ofInt8 (a : UInt8) : BitVec.ofInt 8 (a.toNat : Int) = a.toBitVec := by
  apply BitVec.eq_of_toNat_eq
  rw [BitVec.toNat_ofInt]
  have := a.toNat_lt
  have e : a.toBitVec.toNat = a.toNat := rfl
  rw [e]
  omega
theorem back8 (x : BitVec 8) : IntKind.u8.wrap (x.toNat : Int) = ((UInt8.ofBitVec x).toNat : Int) := by
  rw [wrap_u8]
  have := x.isLt
  have e : (UInt8.ofBitVec x).toNat = x.toNat := rfl
  rw [e]
  omega
theorem xor8 (a b : UInt8) : bits .xor .u8 (a.toNat : Int) (b.toNat : Int) = ((a ^^^ b).toNat : Int) := by
  show IntKind.u8.wrap (((BitVec.ofInt 8 (a.toNat : Int)) ^^^ (BitVec.ofInt 8 (b.toNat : Int))).toNat : Int) = _
  rw [ofInt8, ofInt8, back8]
  rfl
theorem or8 (a b : UInt8) : bits .or .u8 (a.toNat : Int) (b.toNat : Int) = ((a ||| b).toNat : Int) := by
  show IntKind.u8.wrap (((BitVec.ofInt 8 (a.toNat : Int)) ||| (BitVec.ofInt 8 (b.toNat : Int))).toNat : Int) = _
  rw [ofInt8, ofInt8, back8]
  rfl
end Go.Proofs.YteenjgfbbkdlhaaGreatDoor.Sx

namespace Go.Proofs.YteenjgfbbkdlhaaGreatDoor.Sx
open Go
attribute [local irreducible] Calls
theorem and8 (a b : UInt8) : bits .and .u8 (a.toNat : Int) (b.toNat : Int) = ((a &&& b).toNat : Int) := by
  show IntKind.u8.wrap (((BitVec.ofInt 8 (a.toNat : Int)) &&& (BitVec.ofInt 8 (b.toNat : Int))).toNat : Int) = _
  rw [ofInt8, ofInt8, back8]
  rfl
theorem andNot8 (a b : UInt8) : bits .andNot .u8 (a.toNat : Int) (b.toNat : Int) = ((a &&& ~~~b).toNat : Int) := by
  show IntKind.u8.wrap (((BitVec.ofInt 8 (a.toNat : Int)) &&& ~~~(BitVec.ofInt 8 (b.toNat : Int))).toNat : Int) = _
  rw [ofInt8, ofInt8, back8]
  rfl
theorem wrap_i32 {x : Int} (h1 : -2147483648 ≤ x) (h2 : x ≤ 2147483647) : IntKind.i32.wrap x = x := by
  simp only [IntKind.wrap, IntKind.bits, IntKind.signed]
  simp
  omega
theorem cont_eq (b : UInt8) : ((b &&& ~~~63).toNat : Int) = 128 ↔ b.toNat / 64 = 2 := by
  have h : ∀ n : _root_.Fin 256, (((UInt8.ofNat n.1) &&& ~~~63).toNat = 128 ↔ (UInt8.ofNat n.1).toNat / 64 = 2) := by decide +kernel
  have h2 : (b &&& ~~~63).toNat = 128 ↔ b.toNat / 64 = 2 := Nam.u8_all (p := fun b => (b &&& ~~~63).toNat = 128 ↔ b.toNat / 64 = 2) h b
  omega
theorem low_eq (b : UInt8) : (b &&& 63).toNat = b.toNat % 64 := by
  have h : ∀ n : _root_.Fin 256, ((UInt8.ofNat n.1) &&& 63).toNat = (UInt8.ofNat n.1).toNat % 64 := by decide +kernel
  exact Nam.u8_all (p := fun b => (b &&& 63).toNat = b.toNat % 64) h b
theorem shl6_i32 {x : Nat} (hx : x < 33554432) : IntKind.i32.wrap ((x : Int) * 2 ^ (min (6 : Int).toNat IntKind.i32.bits)) = ((x * 64 : Nat) : Int) := by
  have h1 : min (6 : Int).toNat IntKind.i32.bits = 6 := rfl
  rw [h1, wrap_i32 (by omega) (by omega)]
  omega
theorem or6_i32 {x y : Nat} (hx : x < 33554432) (hy : y < 64) : bits .or .i32 ((x * 64 : Nat) : Int) (y : Int) = ((x * 64 + y : Nat) : Int) := by
  show IntKind.i32.wrap (((BitVec.ofInt 32 ((x * 64 : Nat) : Int)) ||| (BitVec.ofInt 32 (y : Int))).toNat : Int) = _
  have h1 : (BitVec.ofInt 32 ((x * 64 : Nat) : Int)).toNat = x <<< 6 := by
    rw [BitVec.toNat_ofInt, Nat.shiftLeft_eq]
    omega
  have h2 : (BitVec.ofInt 32 (y : Int)).toNat = y := by
    rw [BitVec.toNat_ofInt]
    omega
  rw [BitVec.toNat_or, h1, h2, ← Nat.shiftLeft_add_eq_or_of_lt (by omega) x, Nat.shiftLeft_eq, wrap_i32 (by omega) (by omega)]
theorem sign_c (w : World) (z : Int) (r : Nat) (hz : z = (r : Int)) : Pu Tryz.prog n_name_sign #[.int .i32 z] w (.bool (Nam.sign r)) := by
  refine con_of_sx (cx := cx_name_sign w (Un [])) (good_name_sign w (Un [])) b_name_sign rfl rfl (β := Va.z) [.c (.v (.int .i32 z))] 0 [] [] rfl rfl (Sat.start rfl) ?_
  have fin : ∀ (b : Bool), b = Nam.sign r → ∀ {n : Nat} {H : List Bk} {F : List Fact} (β : Va) (w' : World), Sat (cx_name_sign w (Un [])) β n H F w' → Fin w [] (fun u Fs => u = .bool (Nam.sign r) ∧ Fs = []) (.bool b) w' := by
    rintro b rfl n H F β w' hs
    exact (hs.keepB (List.nil_sublist _)).fin [] ⟨rfl, rfl⟩
  refine BIf.dec (fun h0 => ?_) (fun h0 => ?_)
  · refine BIf.dec (fun h1 => ?_) (fun h1 => ?_)
    · have h1' : z ≤ 1114111 := h1
      refine BIf.dec (fun h2 => ?_) (fun h2 => ?_)
      · have h2' : z < 55296 := h2
        refine fin true ?_
        unfold Nam.sign
        rw [decide_eq_true (by omega : r ≤ 1114111), decide_eq_true (by omega : r < 55296)]; rfl
      · have h2' : ¬ z < 55296 := h2
        refine fin (decide ((57343 : Int) < z)) ?_
        unfold Nam.sign
        rw [decide_eq_true (by omega : r ≤ 1114111), decide_eq_false (by omega : ¬ r < 55296), Bool.true_and, Bool.false_or]
        exact decide_eq_decide.2 (by omega)
    · have h1' : ¬ z ≤ 1114111 := h1
      refine fin false ?_
      unfold Nam.sign
      rw [decide_eq_false (by omega : ¬ r ≤ 1114111)]; rfl
  · have h0' : ¬ (0 : Int) ≤ z := h0
    omega
def formV (f : Nam.Fm) : List Value := [.int .i64 (f.size : Int), byte f.mask, byte f.lead, .int .i32 (f.least : Int)]
def formCells : List Value := Nam.fms.flatMap formV
def Forms (g : Nat) (w : World) : Prop := Rd 16 (some ⟨g, 0, none⟩) 1 formCells w
theorem Forms.old {g : Nat} {W w : World} (h : Forms g W) (ho : (oldF W).p w) : Forms g w := Rd.old h ho
def runeI : Option Nat → Int
  | some r => (r : Int)
  | none => -1
theorem form_at : ∀ {i : Nat} {f : Nam.Fm}, Nam.fms[i]? = some f → ((formCells.map SL.v).drop (i * 4)).take 4 = (formV f).map SL.v
  | 0, f, h => by cases h; rfl
  | 1, f, h => by cases h; rfl
  | 2, f, h => by cases h; rfl
  | 3, f, h => by cases h; rfl
  | n + 4, f, h => by simp [Nam.fms] at h
theorem tailR_snoc (b : UInt8) : ∀ (l : List UInt8) (r : Nat), Nam.tailR (l ++ [b]) r = match Nam.tailR l r with
    | some q => if b.toNat / 64 = 2 then some (q * 64 + b.toNat % 64) else none
    | none => none
  | [], r => rfl
  | x :: t, r => by
    simp only [List.cons_append, Nam.tailR]
    split
    · exact tailR_snoc b t _
    · rfl
theorem form_size {f : Nam.Fm} (h : f ∈ Nam.fms) : 1 ≤ f.size ∧ f.size ≤ 4 ∧ f.least ≤ 65536 := by
  simp only [Nam.fms, List.mem_cons, List.not_mem_nil, or_false] at h
  rcases h with rfl | rfl | rfl | rfl <;> decide
theorem decode_c (w : World) (s : ByteArray) (b0 : UInt8) (t : List UInt8) (hs0 : s.data.toList = b0 :: t) (hsz : s.size ≤ maxLen) (hf : Forms 10 w) :
    Pu Tryz.prog n_name_decode #[.string s] w (.tuple #[.int .i32 (runeI (Nam.decL (b0 :: t)).1), .int .i64 ((Nam.decL (b0 :: t)).2 : Int)]) := by
  have g := good_name_decode w (Un [])
  have hlen : s.size = (b0 :: t).length := by rw [← hs0]; rfl
  have hml := maxLen_eq
  refine con_of_sx (cx := cx_name_decode w (Un [])) g b_name_decode rfl rfl (β := Va.z) [.c (.v (.string s))] 0 [] [oldF w] rfl rfl (old_sat rfl) ?_
  refine ⟨formCells, rfl, fun β w' hs => ?_, ?_⟩
  · intro j u hu
    obtain ⟨ad, q, hc⟩ := (Forms.old hf (hs.get 0 rfl)).2 (by decide)
    cases q
    exact hc j u hu
  have bad : Nam.decL (b0 :: t) = (none, 1) → ∀ {n : Nat} {H : List Bk} {F : List Fact} (β : Va) (w' : World), Sat (cx_name_decode w (Un [])) β n H F w' → Fin w [] (fun u Fs => u = .tuple #[.int .i32 (runeI (Nam.decL (b0 :: t)).1), .int .i64 ((Nam.decL (b0 :: t)).2 : Int)] ∧ Fs = []) (.tuple #[.int .i32 (-1), .int .i64 1]) w' := by
    intro h n H F β w' hs
    rw [h]
    exact (hs.keepB (List.nil_sublist _)).fin [] ⟨rfl, rfl⟩
  refine loop_rule 0 (fun i : Nat => [(0, .c (.v (.string s))), (8, .agg (formCells.map SL.v)), (9, .c (.v (.int .i64 (i : Int))))]) (fun _ => []) (fun _ => [oldF w])
    (fun i => i ≤ 4 ∧ ∀ f ∈ Nam.fms.take i, Nam.fits f (b0 :: t) = false) (fun i => 4 - i) 0 ⟨Nat.zero_le _, fun f h => by cases h⟩ (Ent.same ⟨rfl, rfl, rfl, trivial⟩ rfl) g ?_
  rintro i ⟨hi, hno⟩
  have next : ∀ {f : Nam.Fm}, Nam.fms[i]? = some f → Nam.fits f (b0 :: t) = false → ∀ f ∈ Nam.fms.take (i + 1), Nam.fits f (b0 :: t) = false := by
    intro f hfi hff f' hf'
    rw [List.take_add_one, hfi] at hf'
    rcases List.mem_append.1 hf' with q | q
    · exact hno f' q
    · obtain rfl : f' = f := by simpa using q
      exact hff
  refine BIf.dec (fun hlt => ?_) (fun hge => ?_)
  · have hlt0 : (i : Int) < 4 := hlt
    have hi4 : i < Nam.fms.length := by show i < 4; omega
    obtain ⟨f, hfi, hfm⟩ := at_lt hi4
    have hfs := form_size hfm
    refine ⟨i, (formV f).map SL.v, rfl, by omega, form_at hfi, ?_⟩
    have hS : ∀ {n : Nat} {F : List Fact}, Sub (cx_name_decode w (Un [])) n [⟨0, ty_name_form, (formV f).map SL.v⟩] F [⟨0, ty_name_form, (formV f).map SL.v⟩] [] := fun {n F} => Sub.of (List.Sublist.refl _) (List.nil_sublist _)
    have hb0 : s.data.toList[0]? = some b0 := by rw [hs0]; rfl
    refine draw_rule g p_name_decode_4 (by kernel_rfl) [⟨0, ty_name_form, (formV f).map SL.v⟩] [] hS ?_
    refine ⟨0, b0, rfl, hb0, ?_⟩
    refine ⟨_, and8 b0 f.mask, ?_⟩
    refine BIf.not (BIf.dec (fun hm => ?_) (fun hm => ?_))
    · have hm1 : ((b0 &&& f.mask).toNat : Int) = (f.lead.toNat : Int) := hm
      have hm2 : b0 &&& f.mask = f.lead := UInt8.toNat_inj.1 (by omega)
      refine BIf.dec (fun hsh => ?_) (fun hsh => ?_)
      · have hsh1 : (s.size : Int) < (f.size : Int) := hsh
        have hff : Nam.fits f (b0 :: t) = false := by
          simp only [Nam.fits, hm2, decide_true, Bool.true_and]
          exact decide_eq_false (by omega)
        refine ⟨((i + 1 : Nat) : Int), by rw [wrap_i64 (by omega) (by omega)]; rfl, ?_⟩
        exact ⟨i + 1, ⟨by omega, next hfi hff⟩, by omega, Ent.mk' ⟨rfl, rfl, rfl, trivial⟩ rfl (fun β w hs => (hs.keepB (List.nil_sublist _)).lower)⟩
      · have hsh1 : ¬ (s.size : Int) < (f.size : Int) := hsh
        have hfl : f.size ≤ (b0 :: t).length := by omega
        have hdec : Nam.decL (b0 :: t) = match Nam.tryF f (b0 :: t) with | some r => (some r, f.size) | none => (none, 1) := by
          unfold Nam.decL
          rw [Nam.find_form hfm hm2, if_pos hfl]
          try rfl
        refine draw_rule g p_name_decode_5 (by kernel_rfl) [⟨0, ty_name_form, (formV f).map SL.v⟩] [] hS ?_
        refine ⟨0, b0, rfl, hb0, ?_⟩
        refine ⟨_, andNot8 b0 f.mask, ?_⟩
        obtain ⟨r0, hr0⟩ : ∃ r0, (b0 &&& ~~~f.mask).toNat = r0 := ⟨_, rfl⟩
        have hr0l : r0 < 256 := by rw [← hr0]; exact UInt8.toNat_lt _
        refine ⟨(r0 : Int), by rw [hr0]; exact wrap_i32 (by omega) (by omega), ?_⟩
        have hbad : Nam.tryF f (b0 :: t) = none → Nam.decL (b0 :: t) = (none, 1) := fun h => by rw [hdec, h]
        refine loop_rule (ι := Nat × Nat) 1 (fun q => [(0, .c (.v (.string s))), (5, .c (.p 0 0)), (6, .c (.v (.int .i32 (q.2 : Int)))), (7, .c (.v (.int .i64 (q.1 : Int))))]) (fun _ => [⟨0, ty_name_form, (formV f).map SL.v⟩]) (fun _ => [oldF w])
          (fun q => 1 ≤ q.1 ∧ q.1 ≤ f.size ∧ Nam.tailR (t.take (q.1 - 1)) r0 = some q.2 ∧ q.2 < 256 * 64 ^ (q.1 - 1)) (fun q => f.size - q.1) (1, r0) ⟨Nat.le_refl _, hfs.1, rfl, by simpa using hr0l⟩ (Ent.same ⟨rfl, rfl, rfl, rfl, trivial⟩ rfl) g ?_
        rintro ⟨k, r⟩ ⟨hk1, hk2, htl, hrb⟩
        simp only at hk1 hk2 htl hrb
        simp only
        refine BIf.dec (fun hks => ?_) (fun hks => ?_)
        · have hks1 : (k : Int) < (f.size : Int) := hks
          have hkt : k - 1 < t.length := by simp only [List.length_cons] at hfl; omega
          obtain ⟨c, hc, _⟩ := at_lt hkt
          have hcs : s.data.toList[k]? = some c := by
            rw [hs0]
            obtain ⟨k', rfl⟩ : ∃ k', k = k' + 1 := ⟨k - 1, by omega⟩
            simpa using hc
          have hsn : t.take k = t.take (k - 1) ++ [c] := by
            have := List.take_add_one (l := t) (i := k - 1)
            rw [hc, Nat.sub_add_cancel hk1] at this
            exact this
          have hrb2 : r < 33554432 := by
            have : 64 ^ (k - 1) ≤ 64 ^ 2 := Nat.pow_le_pow_right (by decide) (by omega)
            omega
          refine ⟨k, c, rfl, hcs, ?_⟩
          refine ⟨_, andNot8 c 63, ?_⟩
          refine BIf.not (BIf.dec (fun hct => ?_) (fun hct => ?_))
          · have hcc : c.toNat / 64 = 2 := (cont_eq c).1 hct
            refine ⟨by decide, _, shl6_i32 hrb2, ?_⟩
            refine ⟨k, c, rfl, hcs, ?_⟩
            refine ⟨_, and8 c 63, ?_⟩
            refine ⟨((c.toNat % 64 : Nat) : Int), by rw [low_eq]; exact wrap_i32 (by omega) (by omega), ?_⟩
            refine ⟨_, or6_i32 hrb2 (Nat.mod_lt _ (by decide)), ?_⟩
            refine ⟨((k + 1 : Nat) : Int), by rw [wrap_i64 (by omega) (by omega)]; rfl, ?_⟩
            refine ⟨(k + 1, r * 64 + c.toNat % 64), ⟨by show 1 ≤ k + 1; omega, by show k + 1 ≤ f.size; omega, ?_, ?_⟩, by show f.size - (k + 1) < f.size - k; omega, Ent.same ⟨rfl, rfl, rfl, rfl, trivial⟩ rfl⟩
            · show Nam.tailR (t.take (k + 1 - 1)) r0 = some (r * 64 + c.toNat % 64)
              rw [Nat.add_sub_cancel, hsn, tailR_snoc, htl]
              simp only
              rw [if_pos hcc]
            · show r * 64 + c.toNat % 64 < 256 * 64 ^ (k + 1 - 1)
              obtain ⟨k', rfl⟩ : ∃ k', k = k' + 1 := ⟨k - 1, by omega⟩
              simp only [Nat.add_sub_cancel] at hrb ⊢
              rw [Nat.pow_succ]
              omega
          · have hcc : ¬ c.toNat / 64 = 2 := fun q => hct ((cont_eq c).2 q)
            exact bad (hbad (by
              simp only [Nam.tryF]
              rw [Nam.tailR_none]
              refine ⟨c, ?_, hcc⟩
              have h2 : c ∈ t.take k := by rw [hsn]; simp
              exact List.take_subset_take_left t (by omega) h2))
        · have hks1 : ¬ (k : Int) < (f.size : Int) := hks
          obtain rfl : k = f.size := by omega
          have hmid : Nam.tryF f (b0 :: t) = if f.least ≤ r ∧ Nam.sign r = true then some r else none := by
            simp only [Nam.tryF, hr0, htl]
          refine BIf.dec (fun hls => ?_) (fun hls => ?_)
          · have hls1 : (f.least : Int) ≤ (r : Int) := hls
            refine call_pu (fun β w' hs => sign_c w' (r : Int) r rfl) ?_
            cases hsg : Nam.sign r with
            | true =>
              rw [if_pos ⟨by omega, hsg⟩] at hmid
              rw [hmid] at hdec
              refine draw_rule g p_name_decode_12 (by kernel_rfl) [⟨0, ty_name_form, (formV f).map SL.v⟩] [] hS ?_
              intro β w' hs
              rw [hdec]
              exact (hs.keepB (List.nil_sublist _)).fin [] ⟨rfl, rfl⟩
            | false => exact bad (hbad (by rw [hmid, if_neg (fun q => by rw [hsg] at q; cases q.2)]))
          · have hls1 : ¬ (f.least : Int) ≤ (r : Int) := hls
            exact bad (hbad (by rw [hmid, if_neg (fun q => hls1 (by have := q.1; omega))]))
    · have hm1 : ¬ ((b0 &&& f.mask).toNat : Int) = (f.lead.toNat : Int) := hm
      have hff : Nam.fits f (b0 :: t) = false := by
        simp only [Nam.fits]
        rw [decide_eq_false (fun q => hm1 (by rw [q]))]
        rfl
      refine ⟨((i + 1 : Nat) : Int), by rw [wrap_i64 (by omega) (by omega)]; rfl, ?_⟩
      exact ⟨i + 1, ⟨by omega, next hfi hff⟩, by omega, Ent.mk' ⟨rfl, rfl, rfl, trivial⟩ rfl (fun β w hs => (hs.keepB (List.nil_sublist _)).lower)⟩
  · have hge0 : ¬ (i : Int) < 4 := hge
    have hi4 : i = 4 := by omega
    subst hi4
    refine bad ?_
    unfold Nam.decL
    rw [List.find?_eq_none.2 (fun f hf q => by rw [hno f hf] at q; cases q)]
abbrev Sp := Int × Int
def spanV (x : Sp) : List Value := [.int .i32 x.1, .int .i32 x.2]
def inSp (z : Int) (l : List Sp) : Bool := l.any fun p => decide (p.1 ≤ z) && decide (z ≤ p.2)
theorem within_c (w : World) (z : Int) (A : Option Addr) (l : List Sp) (c : Nat) (hr : Rd 2 A l.length (l.flatMap spanV) w) (hn : l.length ≤ 1000) :
    Pu Tryz.prog n_name_within #[.int .i32 z, .slice A l.length c] w (.bool (inSp z l)) := by
  have g := good_name_within w (Un [])
  refine con_of_sx (cx := cx_name_within w (Un [])) g b_name_within rfl rfl (β := Va.z) [.c (.v (.int .i32 z)), .c (.v (.slice A l.length c))] 0 [] [oldF w] rfl rfl (old_sat rfl) ?_
  refine loop_rule 0 (fun k : Nat => [(0, .c (.v (.int .i32 z))), (7, .c (.v (.slice A l.length c))), (8, .c (.v (.int .i64 l.length))), (9, .c (.v (.int .i64 (k : Int))))]) (fun _ => []) (fun _ => [oldF w])
    (fun k => k ≤ l.length ∧ inSp z (l.take k) = false) (fun k => l.length - k) 0 ⟨Nat.zero_le _, rfl⟩ (Ent.same ⟨rfl, rfl, rfl, rfl, trivial⟩ rfl) g ?_
  rintro k ⟨hk, hno⟩
  refine BIf.dec (fun hlt => ?_) (fun hge => ?_)
  · have hlt0 : (k : Int) < l.length := hlt
    have hkl : k < l.length := by omega
    obtain ⟨x, hx, hxm⟩ := at_lt hkl
    obtain ⟨ad, hA, _⟩ := hr.2 (by omega)
    have hsn : inSp z (l.take (k + 1)) = (decide (x.1 ≤ z) && decide (z ≤ x.2)) := by
      rw [List.take_add_one, hx]
      unfold inSp at hno ⊢
      rw [List.any_append, hno]
      simp
    have next : inSp z (l.take (k + 1)) = false → Ent (cx_name_within w (Un [])) 1 [(0, .c (.v (.int .i32 z))), (7, .c (.v (.slice A l.length c))), (8, .c (.v (.int .i64 l.length))), (9, .c (.v (.int .i64 ((k + 1 : Nat) : Int))))] [] [oldF w] 0 [(0, .c (.v (.int .i32 z))), (7, .c (.v (.slice A l.length c))), (8, .c (.v (.int .i64 l.length))), (9, .c (.v (.int .i64 ((k + 1 : Nat) : Int))))] [] [oldF w] := fun _ => Ent.mk' ⟨rfl, rfl, rfl, rfl, trivial⟩ rfl (fun β w hs => hs.lower)
    refine ⟨ad, k, hA, rfl, hkl, spanV x, rfl, fun β w' hs => ?_, ?_⟩
    · have h := Rd.old hr (hs.get 0 rfl)
      obtain ⟨hil, hie⟩ := List.getElem?_eq_some_iff.1 hx
      have h2 := Rd.elem (f := spanV) (fun _ => rfl) h hA hil
      rw [hie] at h2
      exact h2
    · refine BIf.dec (fun h1 => ?_) (fun h1 => ?_)
      · have h1' : x.1 ≤ z := h1
        refine BIf.dec (fun h2 => ?_) (fun h2 => ?_)
        · have h2' : z ≤ x.2 := h2
          intro β w' hs
          refine (hs.keepB (List.nil_sublist _)).fin [] ⟨?_, rfl⟩
          show Value.bool true = _
          congr 1
          refine (List.any_eq_true.2 ⟨x, hxm, ?_⟩).symm
          rw [decide_eq_true h1', decide_eq_true h2']
          rfl
        · have h2' : ¬ z ≤ x.2 := h2
          refine ⟨((k + 1 : Nat) : Int), by rw [wrap_i64 (by omega) (by omega)]; rfl, ?_⟩
          exact ⟨k + 1, ⟨hkl, by rw [hsn, decide_eq_false h2', Bool.and_false]⟩, by omega, Ent.mk' ⟨rfl, rfl, rfl, rfl, trivial⟩ rfl (fun β w hs => (hs.keepB (List.nil_sublist _)).lower)⟩
      · have h1' : ¬ x.1 ≤ z := h1
        refine ⟨((k + 1 : Nat) : Int), by rw [wrap_i64 (by omega) (by omega)]; rfl, ?_⟩
        exact ⟨k + 1, ⟨hkl, by rw [hsn, decide_eq_false h1', Bool.false_and]⟩, by omega, Ent.mk' ⟨rfl, rfl, rfl, rfl, trivial⟩ rfl (fun β w hs => (hs.keepB (List.nil_sublist _)).lower)⟩
  · have hge0 : ¬ (k : Int) < l.length := hge
    obtain rfl : k = l.length := by omega
    rw [List.take_length] at hno
    intro β w' hs
    refine hs.fin [] ⟨?_, rfl⟩
    rw [hno]
    rfl
abbrev Rn := Nat × Int
def runesAt (l : List UInt8) (i : Nat) : List Rn := if h : i < l.length then (i, runeI (Nam.decL (l.drop i)).1) :: runesAt l (i + max 1 (Nam.decL (l.drop i)).2) else []
termination_by l.length - i
decreasing_by omega
theorem runesAt_end {l : List UInt8} {i : Nat} (h : ¬ i < l.length) : runesAt l i = [] := by rw [runesAt, dif_neg h]
theorem drop_ne {l : List UInt8} {i : Nat} (h : i < l.length) : l.drop i ≠ [] := fun q => by
  have := congrArg List.length q
  rw [List.length_drop] at this
  simp at this
  omega
theorem runesAt_cons {l : List UInt8} {i : Nat} (h : i < l.length) : runesAt l i = (i, runeI (Nam.decL (l.drop i)).1) :: runesAt l (i + (Nam.decL (l.drop i)).2) := by
  have h1 := Nam.decL_size (drop_ne h)
  rw [runesAt, dif_pos h, Nat.max_eq_right h1.1]
theorem runesAt_vals (l : List UInt8) : ∀ (k i : Nat), l.length - i ≤ k → (runesAt l i).map (·.2) = (Nam.runes (l.drop i)).map runeI := by
  intro k
  induction k with
  | zero =>
    intro i h
    rw [runesAt_end (by omega), List.drop_eq_nil_of_le (by omega), Nam.runes_nil]
    rfl
  | succ k ih =>
    intro i h
    by_cases hi : i < l.length
    · have h1 := Nam.decL_size (drop_ne hi)
      rw [runesAt_cons hi, Nam.runes_cons (drop_ne hi), List.map_cons, List.map_cons, ih _ (by omega), List.drop_drop]
    · rw [runesAt_end hi, List.drop_eq_nil_of_le (by omega), Nam.runes_nil]
      rfl
def insR (t : List UInt8) (pre : List Rn) (x : Rn) (args : Array Value) (X : Fact) : Prop := args = #[.int .i64 (x.1 : Int), .int .i32 x.2] ∧ X = noF ∧ ∃ r, runesAt t 0 = pre ++ x :: r
def runesEnd (l : List UInt8) (J Jx : List Rn → Fact → Prop) (Fs : List Fact) : Prop :=
  ∃ f Fs', Fs = f :: Fs' ∧ ((∃ xs, J xs f ∧ xs = runesAt l 0 ∧ Fs' = []) ∨ (∃ pre, Jx pre f ∧ (∃ r, runesAt l 0 = pre ++ r) ∧ Fs' = []))
def formF : Fact := rdF 16 (some ⟨10, 0, none⟩) 1 formCells
theorem extract_drop (s : ByteArray) (i : Nat) : (s.extract i s.size).data.toList = s.data.toList.drop i := by
  rw [ByteArray.data_extract, Array.toList_extract, List.extract_eq_take_drop]
  rw [List.take_of_length_le]
  rw [List.length_drop]
  exact Nat.le_refl _
theorem runes_it (l : Nat) (w : World) (bx : Nat) (s : ByteArray) (f0 R : Fact) (J Jx : List Rn → Fact → Prop) (hJ0 : J [] f0) (hJo : ∀ pre f, J pre f → f.own = true) (hRo : R.own = false) (hY : Yc Tryz.prog l J Jx R (insR s.data.toList))
    (hl : s.size ≤ 1000000) (hm : Mem w (f0 :: R :: [bkF bx ty_string [.string s], formF])) :
    Con Tryz.prog n_name_Runes_1 #[.func (.yield l) #[] #[], .pointer (some ⟨bx, 0, none⟩)] w [f0, bkF bx ty_string [.string s]] (fun _ Fs => runesEnd s.data.toList J Jx Fs) := by
  have g := good_name_Runes_1 w (Un [f0, bkF bx ty_string [.string s]]) [bx]
  have hs0 : Sat (cx_name_Runes_1 w (Un [f0, bkF bx ty_string [.string s]]) [bx]) (Va.of fun _ => bx) 1 [] (f0 :: R :: [bkF bx ty_string [.string s], formF]) w := by
    refine hm.sat rfl (fun f hf ho k hk => ?_) ⟨Nat.le_refl 1, fun i hi => by obtain rfl : i = 0 := Nat.lt_one_iff.1 hi; rfl⟩
    simp only [List.mem_cons, List.not_mem_nil, or_false] at hf
    rcases hf with rfl | rfl | rfl | rfl
    · exact ⟨_, by simp, hk⟩
    · rw [hRo] at ho; cases ho
    · exact ⟨_, by simp, hk⟩
    · cases ho
  have hs1 := hs0.toBk 2 rfl 0 Nat.zero_lt_one rfl
  have hlen : s.data.toList.length = s.size := rfl
  have hml := maxLen_eq
  refine con_of_sx (cx := cx_name_Runes_1 w (Un [f0, bkF bx ty_string [.string s]]) [bx]) g b_name_Runes_1 rfl rfl (β := Va.of fun _ => bx) [.c (.v (.func (.yield l) #[] #[])), .c (.p 0 0)] 1 _ _ rfl rfl hs1 ?_
  refine loop_rule (ι := List Rn × Nat × Fact) 1 (fun i => [(0, .c (.v (.func (.yield l) #[] #[]))), (1, .c (.p 0 0)), (3, .c (.v (.int .i64 (i.2.1 : Int))))]) (fun _ => [⟨0, ty_string, [.v (.string s)]⟩]) (fun i => [i.2.2, R, formF])
    (fun i => J i.1 i.2.2 ∧ runesAt s.data.toList 0 = i.1 ++ runesAt s.data.toList i.2.1 ∧ i.2.1 ≤ s.size) (fun i => s.size - i.2.1) ([], 0, f0) ⟨hJ0, rfl, Nat.zero_le _⟩ (Ent.same ⟨rfl, rfl, rfl, trivial⟩ rfl) g ?_
  rintro ⟨pre, i, f⟩ ⟨hJ, hsc, hi⟩
  simp only at hJ hsc hi
  have hfo := hJo _ _ hJ
  simp only
  refine BIf.dec (fun hlt => ?_) (fun hge => ?_)
  · have hlt0 : (i : Int) < s.size := hlt
    have hil : i < s.data.toList.length := by omega
    refine ⟨s.size, i, rfl, rfl, Nat.le_refl _, hi, ?_⟩
    have hd := Nam.decL_size (drop_ne hil)
    rw [List.length_drop] at hd
    rw [runesAt_cons hil] at hsc
    obtain ⟨b0, t, hbt⟩ : ∃ b0 t, s.data.toList.drop i = b0 :: t := by
      cases h : s.data.toList.drop i with
      | nil => exact absurd h (drop_ne hil)
      | cons b t => exact ⟨b, t, rfl⟩
    obtain ⟨o, n, hon⟩ : ∃ o n, Nam.decL (s.data.toList.drop i) = (o, n) := ⟨_, _, rfl⟩
    rw [hon] at hd hsc
    simp only at hd hsc
    refine call_pu (v := .tuple #[.int .i32 (runeI o), .int .i64 (n : Int)]) (fun β w' hs => by
      have h := decode_c w' (s.extract i s.size) b0 t (by rw [extract_drop, hbt]) (by rw [ByteArray.size_extract]; omega) (hs.get 2 rfl)
      rw [← hbt, hon] at h
      exact h) ?_
    refine yield_ro (X := noF) (x := (i, runeI o)) hY 0 1 rfl hJ hfo rfl hRo (by decide) (fun β => ⟨rfl, rfl, _, hsc⟩) rfl (fun β w _ => ⟨trivial, fun k hk => hk.elim, fun k _ h => h.elim⟩) ?_ ?_
    · intro f2 hfo2 hJ2
      refine ⟨((i + n : Nat) : Int), by rw [wrap_i64 (by omega) (by omega)]; rfl, ?_⟩
      exact ⟨(pre ++ [(i, runeI o)], i + n, f2), ⟨hJ2, by show runesAt s.data.toList 0 = pre ++ [(i, runeI o)] ++ runesAt s.data.toList (i + n); rw [hsc]; simp, by show i + n ≤ s.size; omega⟩, by show s.size - (i + n) < s.size - i; omega, Ent.same ⟨rfl, rfl, rfl, trivial⟩ rfl⟩
    · intro f2 hfo2 hJ2 β w' hs
      exact (hs.keepB (List.nil_sublist _)).fin [0] ⟨f2, [], rfl, .inr ⟨_, hJ2, ⟨runesAt s.data.toList (i + n), by rw [hsc]; simp⟩, rfl⟩⟩ rfl rfl rfl ⟨hfo2, trivial⟩
  · have hge0 : ¬ (i : Int) < s.size := hge
    rw [runesAt_end (l := s.data.toList) (i := i) (by omega), List.append_nil] at hsc
    intro β w' hs
    exact (hs.keepB (List.nil_sublist _)).fin [0] ⟨f, [], rfl, .inl ⟨pre, hJ, hsc.symm, rfl⟩⟩ rfl rfl rfl ⟨hfo, trivial⟩
theorem runes_c (w : World) (s : ByteArray) : Con Tryz.prog n_name_Runes #[.string s] w [] (fun v Fs => ∃ bx, v = .func (.func n_name_Runes_1) #[] #[.pointer (some ⟨bx, 0, none⟩)] ∧ Fs = [bkF bx ty_string [.string s]]) := by
  refine con_of_sx (cx := cx_name_Runes w (Un [])) (good_name_Runes w (Un [])) b_name_Runes rfl rfl (β := Va.z) [.c (.v (.string s))] 0 [] [] rfl rfl (Sat.start rfl) ?_
  intro β w' hs
  exact hs.ofBk.fin [0] ⟨β 0, rfl, rfl⟩
def validB (l : List UInt8) : Bool := (Nam.runes l).all Option.isSome
theorem runeI_none {o : Option Nat} : runeI o = -1 ↔ o = none := by
  cases o with
  | none => simp [runeI]
  | some r =>
    simp only [runeI]
    constructor
    · intro h; omega
    · intro h; cases h
theorem valid_iff (l : List UInt8) : validB l = true ↔ ∀ x ∈ runesAt l 0, x.2 ≠ -1 := by
  have h := runesAt_vals l _ 0 (Nat.le_refl _)
  rw [List.drop_zero] at h
  unfold validB
  rw [List.all_eq_true]
  constructor
  · intro hv x hx q
    have : x.2 ∈ (runesAt l 0).map (·.2) := List.mem_map.2 ⟨x, hx, rfl⟩
    rw [h] at this
    obtain ⟨o, ho, hq⟩ := List.mem_map.1 this
    have h2 := hv o ho
    rw [q] at hq
    rw [runeI_none.1 hq] at h2
    cases h2
  · intro hv o ho
    cases o with
    | some r => rfl
    | none =>
      have : runeI none ∈ (Nam.runes l).map runeI := List.mem_map.2 ⟨none, ho, rfl⟩
      rw [← h] at this
      obtain ⟨x, hx, hq⟩ := List.mem_map.1 this
      exact absurd hq (hv x hx)
theorem valid_c (w0 : World) (s : ByteArray) (hl : s.size ≤ 1000000) (hf : Forms 10 w0) : Pu Tryz.prog n_name_Valid #[.string s] w0 (.bool (validB s.data.toList)) := by
  have g := good_name_Valid w0 (Un [])
  refine con_of_sx (cx := cx_name_Valid w0 (Un [])) g b_name_Valid rfl rfl (β := Va.z) [.c (.v (.string s))] 0 [] [formF] rfl rfl ((Sat.start rfl).rd (fun _ h => by cases h) hf) ?_
  refine call_con [] (fun β w hs => runes_c w s) ?_
  rintro v Fs ⟨bx, rfl, rfl⟩
  refine range_rule (α := Rn) (ι := Unit) (κ := Unit) g rfl (cv := [.pointer (some ⟨bx, 0, none⟩)]) rfl (by kernel_rfl) 1 (Nat.le_refl 1)
    (fun pre _ => ∀ x ∈ pre, x.2 ≠ -1) (fun _ => [⟨0, ty_bool, [.v (.bool false)]⟩]) (fun _ => []) (fun _ => trivial)
    (fun e pre _ => e = .ret ∧ ∃ x ∈ pre, x.2 = -1) (fun _ => [⟨0, ty_bool, [.v (.bool false)]⟩]) (fun _ => []) (fun _ => trivial)
    [bkF bx ty_string [.string s]] [formF] [] ⟨rfl, trivial⟩ (fun g h => by cases h) () (fun x h => by cases h) (fun β w hs => ⟨β, Agr.refl _ _, hs⟩) (insR s.data.toList)
    (fun xs Fs' => xs = runesAt s.data.toList 0 ∧ Fs' = []) (fun pre Fs' => (∃ r, runesAt s.data.toList 0 = pre ++ r) ∧ Fs' = [])
    (fun l w f0 R J Jx hJ0 hJo hRo hY hm => (runes_it l w bx s f0 R J Jx hJ0 hJo hRo hY hl hm).mono fun _ Fs h => h) ?_ ?_ ?_
  · rintro ⟨⟩ pre x args X W S l bs pn pn' hbs hpre ⟨rfl, rfl, _⟩
    refine ⟨_, rfl, ?_⟩
    refine BIf.dec (fun h3 => ?_) (fun h3 => ?_)
    · have h30 : x.2 = -1 := h3
      exact ⟨(), ⟨rfl, x, by simp, h30⟩, Ent.mk' trivial rfl (fun β w hs => (hs.perm []).lower (n' := 1))⟩
    · have h30 : ¬ x.2 = -1 := h3
      refine ⟨(), ?_, Ent.mk' trivial rfl (fun β w hs => (hs.perm []).lower (n' := 1))⟩
      intro y hy
      rcases List.mem_append.1 hy with hy | hy
      · exact hpre y hy
      · obtain rfl := List.mem_singleton.1 hy; exact h30
  · rintro xs ⟨⟩ Fs hpre ⟨rfl, rfl⟩
    intro β w' hs
    refine (hs.keepB (List.nil_sublist _)).fin [] ⟨?_, rfl⟩
    rw [(valid_iff _).2 hpre]
    rfl
  · rintro e pre ⟨⟩ Fs ⟨rfl, x, hx, hxe⟩ ⟨⟨r, hr⟩, rfl⟩
    intro β w' hs
    refine (hs.keepB (List.nil_sublist _)).fin [] ⟨?_, rfl⟩
    have : validB s.data.toList = false := by
      cases h : validB s.data.toList with
      | false => rfl
      | true => exact absurd hxe ((valid_iff _).1 h x (by rw [hr]; exact List.mem_append.2 (.inl hx)))
    rw [this]
    rfl
def blanksL : List Sp := [(0xa0, 0xa0), (0x1680, 0x1680), (0x2000, 0x200a), (0x202f, 0x202f), (0x205f, 0x205f), (0x3000, 0x3000)]
def nothingL : List Sp := [(0xad, 0xad), (0x200b, 0x200d), (0x2060, 0x2060), (0xfe00, 0xfe0f), (0xfeff, 0xfeff)]
def barredL : List Sp := [(0, 0x1f), (0x7f, 0x9f), (0x2028, 0x2029), (0x202a, 0x202e), (0x2066, 0x2069), (0xe000, 0xf8ff), (0xf0000, 0x10ffff), (0xfff9, 0xfffd), (0xfdd0, 0xfdef)]
def spansF (g : Nat) (l : List Sp) : Fact := rdF 2 (some ⟨g, 0, none⟩) l.length (l.flatMap spanV)
def prep1 (z : Int) : List Int := if inSp z blanksL = true then [32] else if inSp z nothingL = true then [] else [z]
def prepAt (l : List Rn) : List Int := l.flatMap fun x => prep1 x.2
def insPr (t : List UInt8) (pre : List Int) (z : Int) (args : Array Value) (X : Fact) : Prop := args = #[.int .i32 z] ∧ X = noF ∧ ∃ r, prepAt (runesAt t 0) = pre ++ z :: r
def prepEnd (t : List UInt8) (J Jx : List Int → Fact → Prop) (Fs : List Fact) : Prop :=
  ∃ f Fs', Fs = f :: Fs' ∧ ((∃ xs, J xs f ∧ xs = prepAt (runesAt t 0) ∧ Fs' = []) ∨ (∃ pre, Jx pre f ∧ (∃ r, prepAt (runesAt t 0) = pre ++ r) ∧ Fs' = []))
abbrev OF := { f : Fact // f.own = true }
theorem prep_it (l : Nat) (w : World) (bx : Nat) (s : ByteArray) (f0 R : Fact) (J Jx : List Int → Fact → Prop) (hJ0 : J [] f0) (hJo : ∀ pre f, J pre f → f.own = true) (hRo : R.own = false) (hY : Yc Tryz.prog l J Jx R (insPr s.data.toList))
    (hl : s.size ≤ 1000000) (hm : Mem w (f0 :: R :: [bkF bx ty_string [.string s], formF, spansF 8 blanksL, spansF 9 nothingL])) :
    Con Tryz.prog n_name_prepared_1 #[.func (.yield l) #[] #[], .pointer (some ⟨bx, 0, none⟩)] w [f0, bkF bx ty_string [.string s]] (fun _ Fs => prepEnd s.data.toList J Jx Fs) := by
  have g := good_name_prepared_1 w (Un [f0, bkF bx ty_string [.string s]]) [bx]
  have hf0 := hJo _ _ hJ0
  have hs0 : Sat (cx_name_prepared_1 w (Un [f0, bkF bx ty_string [.string s]]) [bx]) (Va.of fun _ => bx) 1 [] (f0 :: R :: [bkF bx ty_string [.string s], formF, spansF 8 blanksL, spansF 9 nothingL]) w := by
    refine hm.sat rfl (fun f hf ho k hk => ?_) ⟨Nat.le_refl 1, fun i hi => by obtain rfl : i = 0 := Nat.lt_one_iff.1 hi; rfl⟩
    simp only [List.mem_cons, List.not_mem_nil, or_false] at hf
    rcases hf with rfl | rfl | rfl | rfl | rfl | rfl
    · exact ⟨_, by simp, hk⟩
    · rw [hRo] at ho; cases ho
    · exact ⟨_, by simp, hk⟩
    · cases ho
    · cases ho
    · cases ho
  have hs1 := hs0.toBk 2 rfl 0 Nat.zero_lt_one rfl
  refine con_of_sx (cx := cx_name_prepared_1 w (Un [f0, bkF bx ty_string [.string s]]) [bx]) g b_name_prepared_1 rfl rfl (β := Va.of fun _ => bx) [.c (.v (.func (.yield l) #[] #[])), .c (.p 0 0)] 1 _ _ rfl rfl hs1 ?_
  refine call_con [] (fun β w hs => runes_c w s) ?_
  rintro v Fs ⟨bx2, rfl, rfl⟩
  refine range_rule (α := Rn) (ι := OF) (κ := OF) g rfl (cv := [.pointer (some ⟨bx2, 0, none⟩)]) rfl (by kernel_rfl) 2 (Nat.le_refl 2)
    (fun pre i => J (prepAt pre) i.1) (fun _ => [⟨1, 362, [.v (.func (.yield l) #[] #[])]⟩]) (fun i => [i.1]) (fun i => ⟨i.2, trivial⟩)
    (fun e pre i => e = .ret ∧ ∃ p, (∃ r, prepAt pre = p ++ r) ∧ Jx p i.1) (fun _ => [⟨1, 362, [.v (.func (.yield l) #[] #[])]⟩]) (fun i => [i.1]) (fun i => ⟨i.2, trivial⟩)
    [bkF bx2 ty_string [.string s]] [formF] [R, spansF 8 blanksL, spansF 9 nothingL] ⟨rfl, trivial⟩ (fun g h => by
      simp only [List.mem_cons, List.not_mem_nil, or_false] at h
      rcases h with rfl | rfl | rfl
      · exact hRo
      · rfl
      · rfl) ⟨f0, hf0⟩ hJ0 (fun β w hs => ⟨β, Agr.refl _ _, ?_⟩) (insR s.data.toList)
    (fun xs Fs' => xs = runesAt s.data.toList 0 ∧ Fs' = []) (fun pre Fs' => (∃ r, runesAt s.data.toList 0 = pre ++ r) ∧ Fs' = [])
    (fun l w f0 R J Jx hJ0 hJo hRo hY hm => (runes_it l w bx2 s f0 R J Jx hJ0 hJo hRo hY hl hm).mono fun _ Fs h => h) ?_ ?_ ?_
  · exact (hs.keepB (List.Sublist.cons_cons _ (List.nil_sublist _))).perm [0, 3, 1, 2, 4, 5]
  · rintro ⟨f, hfo⟩ pre x args X W S l' bs pn pn' hbs hJ ⟨rfl, rfl, r0, hxr⟩
    simp only at hJ
    refine ⟨_, rfl, ?_⟩
    obtain ⟨b1, hb1⟩ : ∃ b1, inSp x.2 blanksL = b1 := ⟨_, rfl⟩
    obtain ⟨b2, hb2⟩ : ∃ b2, inSp x.2 nothingL = b2 := ⟨_, rfl⟩
    refine ⟨6, 6, 0, 6, 6, _, rfl, rfl, rfl, Nat.le_refl _, Nat.le_refl _, Nat.zero_le _, rfl, rfl, rfl, ?_⟩
    refine call_pu (v := .bool b1) (fun β w' hs => by
      have h := within_c w' x.2 (some ⟨8, 0, none⟩) blanksL 6 (hs.get 3 rfl) (by decide)
      rw [hb1] at h
      exact h) ?_
    have hsn : prepAt (pre ++ [x]) = prepAt pre ++ prep1 x.2 := by simp [prepAt]
    cases b1 with
    | true =>
      have hz : prep1 x.2 = [32] := by unfold prep1; rw [if_pos hb1]
      refine yield_ro (X := noF) (x := 32) hY 1 2 rfl hJ hfo rfl hRo (by decide) (fun β => ⟨rfl, rfl, prepAt r0, by rw [hxr]; simp [prepAt, hz]⟩) rfl (fun β w _ => ⟨trivial, fun k hk => hk.elim, fun k _ h => h.elim⟩) ?_ ?_
      · intro f2 hfo2 hJ2
        exact ⟨⟨f2, hfo2⟩, by show J (prepAt (pre ++ [x])) f2; rw [hsn, hz]; exact hJ2, Ent.mk' trivial rfl (fun β w hs => (hs.perm [0]).lower (n' := 2))⟩
      · intro f2 hfo2 hJ2
        exact ⟨⟨f2, hfo2⟩, ⟨rfl, prepAt pre ++ [32], ⟨[], by rw [hsn, hz]; simp⟩, hJ2⟩, Ent.mk' trivial rfl (fun β w hs => (hs.perm [0]).lower (n' := 2))⟩
    | false =>
      refine ⟨5, 5, 0, 5, 5, _, rfl, rfl, rfl, Nat.le_refl _, Nat.le_refl _, Nat.zero_le _, rfl, rfl, rfl, ?_⟩
      refine call_pu (v := .bool b2) (fun β w' hs => by
        have h := within_c w' x.2 (some ⟨9, 0, none⟩) nothingL 5 (hs.get 4 rfl) (by decide)
        rw [hb2] at h
        exact h) ?_
      cases b2 with
      | true =>
        have hz : prep1 x.2 = [] := by unfold prep1; rw [if_neg (by rw [hb1]; decide), if_pos hb2]
        exact ⟨⟨f, hfo⟩, by show J (prepAt (pre ++ [x])) f; rw [hsn, hz, List.append_nil]; exact hJ, Ent.mk' trivial rfl (fun β w hs => (hs.perm [1]).lower (n' := 2))⟩
      | false =>
        have hz : prep1 x.2 = [x.2] := by unfold prep1; rw [if_neg (by rw [hb1]; decide), if_neg (by rw [hb2]; decide)]
        refine yield_ro (X := noF) (x := x.2) hY 1 2 rfl hJ hfo rfl hRo (by decide) (fun β => ⟨rfl, rfl, prepAt r0, by rw [hxr]; simp [prepAt, hz]⟩) rfl (fun β w _ => ⟨trivial, fun k hk => hk.elim, fun k _ h => h.elim⟩) ?_ ?_
        · intro f2 hfo2 hJ2
          exact ⟨⟨f2, hfo2⟩, by show J (prepAt (pre ++ [x])) f2; rw [hsn, hz]; exact hJ2, Ent.mk' trivial rfl (fun β w hs => (hs.perm [0]).lower (n' := 2))⟩
        · intro f2 hfo2 hJ2
          exact ⟨⟨f2, hfo2⟩, ⟨rfl, prepAt pre ++ [x.2], ⟨[], by rw [hsn, hz]; simp⟩, hJ2⟩, Ent.mk' trivial rfl (fun β w hs => (hs.perm [0]).lower (n' := 2))⟩
  · rintro xs ⟨f, hfo⟩ Fs hJ ⟨rfl, rfl⟩
    intro β w' hs
    exact (hs.keepB (List.nil_sublist _)).fin [0] ⟨f, [], rfl, .inl ⟨_, hJ, rfl, rfl⟩⟩ rfl rfl rfl ⟨hfo, trivial⟩
  · rintro e pre ⟨f, hfo⟩ Fs ⟨rfl, p, ⟨r, hp⟩, hJx⟩ ⟨⟨r2, hr⟩, rfl⟩
    intro β w' hs
    refine (hs.keepB (List.nil_sublist _)).fin [0] ⟨f, [], rfl, .inr ⟨p, hJx, ⟨r ++ prepAt r2, ?_⟩, rfl⟩⟩ rfl rfl rfl ⟨hfo, trivial⟩
    rw [hr, prepAt, List.flatMap_append, ← prepAt, hp, List.append_assoc]
    rfl
theorem prepared_c (w : World) (s : ByteArray) : Con Tryz.prog n_name_prepared #[.string s] w [] (fun v Fs => ∃ bx, v = .func (.func n_name_prepared_1) #[] #[.pointer (some ⟨bx, 0, none⟩)] ∧ Fs = [bkF bx ty_string [.string s]]) := by
  refine con_of_sx (cx := cx_name_prepared w (Un [])) (good_name_prepared w (Un [])) b_name_prepared rfl rfl (β := Va.z) [.c (.v (.string s))] 0 [] [] rfl rfl (Sat.start rfl) ?_
  intro β w' hs
  exact hs.ofBk.fin [0] ⟨β 0, rfl, rfl⟩
def form0 : Nam.Fm := ⟨1, 0x80, 0, 0⟩
def pickF (r : Nat) (f g : Nam.Fm) : Nam.Fm := if g.least ≤ r then g else f
def formOf (r : Nat) : Nam.Fm := Nam.fms.foldl (pickF r) form0
def encGo (f : Nam.Fm) (r : Nat) : Nat → List UInt8
  | 0 => []
  | k + 1 => (if k = f.size - 1 then f.lead ||| UInt8.ofNat (r / 2 ^ (6 * k)) else 128 ||| (UInt8.ofNat (r / 2 ^ (6 * k)) &&& 63)) :: encGo f r k
def encL (r : Nat) : List UInt8 := encGo (formOf r) r (formOf r).size
theorem encGo_len (f : Nam.Fm) (r : Nat) : ∀ k, (encGo f r k).length = k
  | 0 => rfl
  | k + 1 => by simp [encGo, encGo_len f r k]
theorem fold_mem (r : Nat) : ∀ (l : List Nam.Fm) (f : Nam.Fm), f ∈ Nam.fms → (∀ g ∈ l, g ∈ Nam.fms) → l.foldl (pickF r) f ∈ Nam.fms
  | [], _, hf, _ => hf
  | g :: l, f, hf, h => by
    rw [List.foldl_cons]
    refine fold_mem r l _ ?_ (fun x hx => h x (List.mem_cons_of_mem _ hx))
    unfold pickF
    split
    · exact h g List.mem_cons_self
    · exact hf
theorem form0_mem : form0 ∈ Nam.fms := List.mem_cons_self
structure EnS where
  k : Nat
  acc : List UInt8
  A : Option Addr
  c : Nat
theorem append_c (w : World) (A : Option Addr) (l : List UInt8) (c r : Nat) (z : Int) (hz : z = (r : Int)) (hr31 : r ≤ 1114111) (hsg : Nam.sign r = true) (hr : Bs w A l) (hn : l.length ≤ 1000000000) (hf : Forms 10 w) :
    Con Tryz.prog n_name_Append #[.slice A l.length c, .int .i32 z] w [] fun v Fs => ∃ A' c', v = .slice A' (l ++ encL r).length c' ∧ (l ++ encL r).length ≤ c' ∧ c' ≤ maxLen ∧ Fs = [browF ty_uint8 A' (l ++ encL r) c'] := by
  have g := good_name_Append w (Un [])
  have hml := maxLen_eq
  refine con_of_sx (cx := cx_name_Append w (Un [])) g b_name_Append rfl rfl (β := Va.z) [.c (.v (.slice A l.length c)), .c (.v (.int .i32 z))] 0 [] [oldF w] rfl rfl (old_sat rfl) ?_
  refine call_pu (v := .bool true) (fun β w' hs => by
    have h := sign_c w' z r hz
    rw [hsg] at h
    exact h) ?_
  refine call_con [] (fun β w' hs => clone_c w' A l c (Rd.old hr (hs.get 0 rfl)) (by omega)) ?_
  rintro v Fs ⟨A1, c1, rfl, h1, h1m, rfl⟩
  have hcell : ∀ w', (oldF w).p w' → ∀ j u, formCells[j]? = some u → w'.cell? ((⟨10, 0, none⟩ : Addr).add j) = some u := by
    intro w' ho j u hu
    obtain ⟨ad, q, hc⟩ := (Forms.old hf ho).2 (by decide)
    cases q
    exact hc j u hu
  refine ⟨0, rfl, by decide, ?_⟩
  refine ⟨formV form0, rfl, fun β w' hs => ?_, ?_⟩
  · intro j u hu
    have hj : j < 4 := (List.getElem?_eq_some_iff.1 hu).1
    refine hcell w' (hs.get 1 rfl) j u ?_
    have : formCells[j]? = (formV form0)[j]? := by
      match j, hj with
      | 0, _ => rfl
      | 1, _ => rfl
      | 2, _ => rfl
      | 3, _ => rfl
    rw [this, hu]
  refine ⟨formCells, rfl, fun β w' hs => hcell w' (hs.get 1 rfl), ?_⟩
  refine loop_rule (ι := Nat) 1 (fun i => [(1, .c (.v (.int .i32 z))), (5, .c (.v (.slice A1 l.length c1))), (6, .c (.p 0 0)), (18, .agg (formCells.map SL.v)), (19, .c (.v (.int .i64 (i : Int))))]) (fun i => [⟨0, ty_name_form, (formV ((Nam.fms.take i).foldl (pickF r) form0)).map SL.v⟩]) (fun _ => [browF ty_uint8 A1 l c1, oldF w])
    (fun i => i ≤ 4) (fun i => 4 - i) 0 (Nat.zero_le _) (Ent.same ⟨rfl, rfl, rfl, rfl, rfl, trivial⟩ rfl) g ?_
  intro i hi
  refine BIf.dec (fun hlt => ?_) (fun hge => ?_)
  · have hlt0 : (i : Int) < 4 := hlt
    have hi4 : i < Nam.fms.length := by show i < 4; omega
    obtain ⟨f, hfi, hfm⟩ := at_lt hi4
    have hfold : (Nam.fms.take (i + 1)).foldl (pickF r) form0 = pickF r ((Nam.fms.take i).foldl (pickF r) form0) f := by
      rw [List.take_add_one, hfi, List.foldl_append]
      rfl
    refine ⟨i, (formV f).map SL.v, rfl, by omega, form_at hfi, ?_⟩
    refine BIf.dec (fun hls => ?_) (fun hls => ?_)
    · have hls1 : (f.least : Int) ≤ z := hls
      rw [pickF, if_pos (by omega)] at hfold
      refine ⟨((i + 1 : Nat) : Int), by rw [wrap_i64 (by omega) (by omega)]; rfl, ?_⟩
      refine ⟨i + 1, by omega, by omega, ?_⟩
      rw [hfold]
      exact Ent.mk' ⟨rfl, rfl, rfl, rfl, rfl, trivial⟩ rfl (fun β w hs => (hs.keepB (List.sublist_cons_self _ _)).lower)
    · have hls1 : ¬ (f.least : Int) ≤ z := hls
      rw [pickF, if_neg (by omega)] at hfold
      refine ⟨((i + 1 : Nat) : Int), by rw [wrap_i64 (by omega) (by omega)]; rfl, ?_⟩
      refine ⟨i + 1, by omega, by omega, ?_⟩
      rw [hfold]
      exact Ent.mk' ⟨rfl, rfl, rfl, rfl, rfl, trivial⟩ rfl (fun β w hs => (hs.keepB (List.sublist_cons_self _ _)).lower)
  · have hge0 : ¬ (i : Int) < 4 := hge
    obtain rfl : i = 4 := by omega
    have hfe : (Nam.fms.take 4).foldl (pickF r) form0 = formOf r := rfl
    rw [hfe]
    have hfs := form_size (fold_mem r Nam.fms form0 form0_mem (fun _ h => h))
    change 1 ≤ (formOf r).size ∧ (formOf r).size ≤ 4 ∧ _ at hfs
    unfold encL
    generalize formOf r = f at hfs ⊢
    refine ⟨(f.size : Int) - 1, wrap_i64 (by omega) (by omega), ?_⟩
    refine loop_rule (ι := EnS) 1 (fun i => [(1, .c (.v (.int .i32 z))), (5, .c (.v (.slice i.A i.acc.length i.c))), (6, .c (.p 0 0)), (9, .c (.v (.int .i64 ((i.k : Int) - 1))))]) (fun _ => [⟨0, ty_name_form, (formV f).map SL.v⟩]) (fun i => [browF ty_uint8 i.A i.acc i.c, oldF w])
      (fun i => i.acc ++ encGo f r i.k = l ++ encGo f r f.size ∧ i.k ≤ f.size ∧ i.acc.length ≤ i.c ∧ i.c ≤ maxLen ∧ i.acc.length + i.k = l.length + f.size) (fun i => i.k) ⟨f.size, l, A1, c1⟩ ⟨rfl, Nat.le_refl _, h1, h1m, rfl⟩ (Ent.same ⟨rfl, rfl, rfl, rfl, trivial⟩ rfl) g ?_
    rintro ⟨k, acc, A2, c2⟩ ⟨hinv, hk, hac, hcm, hlen⟩
    simp only at hinv hk hac hcm hlen
    simp only
    refine BIf.dec (fun hp => ?_) (fun hp => ?_)
    · have hp0 : (0 : Int) ≤ (k : Int) - 1 := hp
      obtain ⟨k', rfl⟩ : ∃ k', k = k' + 1 := ⟨k - 1, by omega⟩
      refine ⟨((6 * k' : Nat) : Int), by rw [wrap_i64 (by omega) (by omega)]; omega, ?_⟩
      refine ⟨by omega, ((r / 2 ^ (6 * k') : Nat) : Int), ?_, ?_⟩
      · have hmin : min ((6 * k' : Nat) : Int).toNat IntKind.i32.bits = 6 * k' := by show min (6 * k') 32 = _; omega
        rw [hmin, hz]
        exact shr_nat r (6 * k')
      refine ⟨(f.size : Int) - 1, wrap_i64 (by omega) (by omega), ?_⟩
      refine BIf.dec (fun he => ?_) (fun he => ?_)
      · have he0 : ((k' + 1 : Nat) : Int) - 1 = (f.size : Int) - 1 := he
        have henc : encGo f r (k' + 1) = (f.lead ||| UInt8.ofNat (r / 2 ^ (6 * k'))) :: encGo f r k' := by rw [encGo, if_pos (by omega)]
        refine ⟨_, wrap_u8b _, ?_⟩
        refine ⟨_, or8 f.lead (UInt8.ofNat (r / 2 ^ (6 * k'))), ?_⟩
        intro b0
        refine ⟨1, acc.length, acc.length + 1, acc.map byte, [f.lead ||| UInt8.ofNat (r / 2 ^ (6 * k'))].map byte, (acc ++ [f.lead ||| UInt8.ofNat (r / 2 ^ (6 * k'))]).map byte, rfl, fun β w hs => row_rd (hs.get 0 rfl), bytes_one _, rfl, List.map_append.symm, by rw [maxLen_eq]; omega, by show (acc.length + 1) * 1 ≤ _; omega, ?_⟩
        intro A' c' q1 q2 _
        refine ⟨(k' : Int) - 1, by rw [wrap_i64 (by omega) (by omega)]; omega, ?_⟩
        have hle : (acc ++ [f.lead ||| UInt8.ofNat (r / 2 ^ (6 * k'))]).length = acc.length + 1 := by simp
        refine ⟨⟨k', acc ++ [f.lead ||| UInt8.ofNat (r / 2 ^ (6 * k'))], A', c'⟩, ⟨by rw [← hinv, henc]; simp, by show k' ≤ f.size; omega, by show (acc ++ [f.lead ||| UInt8.ofNat (r / 2 ^ (6 * k'))]).length ≤ c'; omega, q2, by show (acc ++ [f.lead ||| UInt8.ofNat (r / 2 ^ (6 * k'))]).length + k' = _; omega⟩, by show k' < k' + 1; omega, ?_⟩
        simp only [browF, hle]
        exact Ent.mk' ⟨rfl, rfl, rfl, rfl, trivial⟩ rfl (fun β w hs => hs.weaken (List.Sublist.refl _) (List.sublist_cons_self _ _))
      · have he0 : ¬ ((k' + 1 : Nat) : Int) - 1 = (f.size : Int) - 1 := he
        have henc : encGo f r (k' + 1) = (128 ||| (UInt8.ofNat (r / 2 ^ (6 * k')) &&& 63)) :: encGo f r k' := by rw [encGo, if_neg (by omega)]
        refine ⟨_, wrap_u8b _, ?_⟩
        refine ⟨_, and8 (UInt8.ofNat (r / 2 ^ (6 * k'))) 63, ?_⟩
        refine ⟨_, or8 128 (UInt8.ofNat (r / 2 ^ (6 * k')) &&& 63), ?_⟩
        intro b0
        refine ⟨1, acc.length, acc.length + 1, acc.map byte, [128 ||| (UInt8.ofNat (r / 2 ^ (6 * k')) &&& 63)].map byte, (acc ++ [128 ||| (UInt8.ofNat (r / 2 ^ (6 * k')) &&& 63)]).map byte, rfl, fun β w hs => row_rd (hs.get 0 rfl), bytes_one _, rfl, List.map_append.symm, by rw [maxLen_eq]; omega, by show (acc.length + 1) * 1 ≤ _; omega, ?_⟩
        intro A' c' q1 q2 _
        refine ⟨(k' : Int) - 1, by rw [wrap_i64 (by omega) (by omega)]; omega, ?_⟩
        have hle : (acc ++ [128 ||| (UInt8.ofNat (r / 2 ^ (6 * k')) &&& 63)]).length = acc.length + 1 := by simp
        refine ⟨⟨k', acc ++ [128 ||| (UInt8.ofNat (r / 2 ^ (6 * k')) &&& 63)], A', c'⟩, ⟨by rw [← hinv, henc]; simp, by show k' ≤ f.size; omega, by show (acc ++ [128 ||| (UInt8.ofNat (r / 2 ^ (6 * k')) &&& 63)]).length ≤ c'; omega, q2, by show (acc ++ [128 ||| (UInt8.ofNat (r / 2 ^ (6 * k')) &&& 63)]).length + k' = _; omega⟩, by show k' < k' + 1; omega, ?_⟩
        simp only [browF, hle]
        exact Ent.mk' ⟨rfl, rfl, rfl, rfl, trivial⟩ rfl (fun β w hs => hs.weaken (List.Sublist.refl _) (List.sublist_cons_self _ _))
    · have hp0 : ¬ (0 : Int) ≤ (k : Int) - 1 := hp
      obtain rfl : k = 0 := by omega
      simp only [encGo, List.append_nil] at hinv
      intro β w' hs
      refine (hs.keepB (List.nil_sublist _)).fin [0] ⟨A2, c2, by rw [← hinv]; rfl, by rw [← hinv]; exact hac, hcm, by rw [← hinv]; rfl⟩
end Go.Proofs.YteenjgfbbkdlhaaGreatDoor.Sx

namespace Go.Proofs.YteenjgfbbkdlhaaGreatDoor.Sx
open Go
theorem decL_sign {s : List UInt8} {r : Nat} (h : (Nam.decL s).1 = some r) : Nam.sign r = true := by
  unfold Nam.decL at h
  split at h
  · rename_i f hf
    split at h
    · rename_i q hq
      obtain rfl := Option.some.inj h
      unfold Nam.tryF at hq
      split at hq
      · cases hq
      · split at hq
        · split at hq
          · rename_i hh
            obtain rfl := Option.some.inj hq
            exact hh.2
          · cases hq
        · cases hq
    · cases h
  · cases h
theorem runes_sign {r : Nat} : ∀ (k : Nat) (l : List UInt8), l.length ≤ k → some r ∈ Nam.runes l → Nam.sign r = true := by
  intro k
  induction k with
  | zero =>
    intro l h hm
    obtain rfl : l = [] := List.length_eq_zero_iff.1 (by omega)
    rw [Nam.runes_nil] at hm
    cases hm
  | succ k ih =>
    intro l h hm
    by_cases hl : l = []
    · subst hl
      rw [Nam.runes_nil] at hm
      cases hm
    · have h1 := Nam.decL_size hl
      rw [Nam.runes_cons hl] at hm
      rcases List.mem_cons.1 hm with hm | hm
      · exact decL_sign hm.symm
      · exact ih _ (by rw [List.length_drop]; omega) hm
def prepO (l : List (Option Nat)) : List Int := l.flatMap fun o => prep1 (runeI o)
theorem prepAt_runes (l : List UInt8) : prepAt (runesAt l 0) = prepO (Nam.runes l) := by
  have h := runesAt_vals l _ 0 (Nat.le_refl _)
  rw [List.drop_zero] at h
  have e1 : prepAt (runesAt l 0) = ((runesAt l 0).map (·.2)).flatMap prep1 := by rw [prepAt, List.flatMap_map]
  rw [e1, h, List.flatMap_map]
  rfl
theorem sign_le {r : Nat} (h : Nam.sign r = true) : r ≤ 1114111 := by
  unfold Nam.sign at h
  simp only [Bool.and_eq_true, decide_eq_true_eq] at h
  exact h.1
theorem prep_sign {l : List UInt8} (hv : validB l = true) {z : Int} (hz : z ∈ prepAt (runesAt l 0)) : ∃ r : Nat, z = (r : Int) ∧ Nam.sign r = true ∧ r ≤ 1114111 := by
  rw [prepAt_runes] at hz
  obtain ⟨o, ho, hz⟩ := List.mem_flatMap.1 hz
  cases o with
  | none =>
    have := List.all_eq_true.1 hv none ho
    cases this
  | some r =>
    have hs := runes_sign l.length l (Nat.le_refl _) ho
    unfold prep1 at hz
    split at hz
    · obtain rfl := List.mem_singleton.1 hz
      exact ⟨32, rfl, by decide, by decide⟩
    · split at hz
      · cases hz
      · obtain rfl := List.mem_singleton.1 hz
        exact ⟨r, rfl, hs, sign_le hs⟩
def badZ (z : Int) : Bool := inSp z barredL || decide (bits .and .i32 z 65534 = 65534)
def encZ (z : Int) : List UInt8 := encL z.toNat
def prepF (l : List UInt8) : List UInt8 × Int :=
  if validB l = true then if (prepAt (runesAt l 0)).any badZ = true then ([], 5) else ((prepAt (runesAt l 0)).flatMap encZ, 0) else ([], 4)
end Go.Proofs.YteenjgfbbkdlhaaGreatDoor.Sx

namespace Go.Proofs.YteenjgfbbkdlhaaGreatDoor.Sx
open Go
attribute [local irreducible] Calls
def mkS (l : List UInt8) : ByteArray := ⟨l.toArray⟩
theorem encZ_len (z : Int) : (encZ z).length ≤ 4 := by
  unfold encZ encL
  rw [encGo_len]
  have := form_size (fold_mem z.toNat Nam.fms form0 form0_mem (fun _ h => h))
  exact this.2.1
theorem prep1_len (z : Int) : (prep1 z).length ≤ 1 := by
  unfold prep1
  split
  · exact Nat.le_refl _
  · split
    · exact Nat.zero_le _
    · exact Nat.le_refl _
theorem runesAt_len (l : List UInt8) : ∀ (k i : Nat), l.length - i ≤ k → (runesAt l i).length ≤ l.length - i := by
  intro k
  induction k with
  | zero => intro i h; rw [runesAt_end (by omega)]; exact Nat.zero_le _
  | succ k ih =>
    intro i h
    by_cases hi : i < l.length
    · have h1 := Nam.decL_size (drop_ne hi)
      rw [runesAt_cons hi, List.length_cons]
      have := ih (i + (Nam.decL (l.drop i)).2) (by omega)
      omega
    · rw [runesAt_end hi]; exact Nat.zero_le _
theorem flat_le {α β : Type} (f : α → List β) (n : Nat) (h : ∀ x, (f x).length ≤ n) : ∀ l : List α, (l.flatMap f).length ≤ n * l.length
  | [] => by simp
  | x :: r => by
    rw [List.flatMap_cons, List.length_append, List.length_cons]
    have h1 := h x
    have h2 := flat_le f n h r
    rw [Nat.mul_succ]
    omega
theorem prepAt_len (l : List UInt8) : (prepAt (runesAt l 0)).length ≤ l.length := by
  have h1 := flat_le (fun x : Rn => prep1 x.2) 1 (fun x => prep1_len x.2) (runesAt l 0)
  have h2 := runesAt_len l _ 0 (Nat.le_refl _)
  unfold prepAt
  omega
structure PrS8 where
  out : List UInt8
  A : Option Addr
  c : Nat
theorem prepare_c (w0 : World) (s : ByteArray) (hl : s.size ≤ 100000) (hf : Forms 10 w0) (h5 : (spansF 8 blanksL).p w0) (h6 : (spansF 9 nothingL).p w0) (h4 : (spansF 4 barredL).p w0) :
    Pu Tryz.prog n_name_Prepare #[.string s] w0 (.tuple #[.string (mkS (prepF s.data.toList).1), .int .i64 (prepF s.data.toList).2]) := by
  have g := good_name_Prepare w0 (Un [])
  have hlen : s.data.toList.length = s.size := rfl
  have own2 : ∀ {f1 f2 f3 f4 : Fact}, f1.own = false → f2.own = false → f3.own = false → f4.own = false → ∀ g ∈ [f1, f2, f3, f4], g.own = false := by
    intro f1 f2 f3 f4 e1 e2 e3 e4 g hg
    simp only [List.mem_cons, List.not_mem_nil, or_false] at hg
    rcases hg with rfl | rfl | rfl | rfl <;> assumption
  have st : Sat (cx_name_Prepare w0 (Un [])) Va.z 0 [] [formF, formF, spansF 8 blanksL, spansF 9 nothingL, spansF 4 barredL] w0 := by
    have s1 : Sat (cx_name_Prepare w0 (Un [])) Va.z 0 [] [spansF 4 barredL] w0 := (Sat.start rfl).rd (fun _ h => by cases h) h4
    have s2 : Sat (cx_name_Prepare w0 (Un [])) Va.z 0 [] [spansF 9 nothingL, spansF 4 barredL] w0 := s1.rd (fun g hg => own2 (f1 := spansF 4 barredL) (f2 := noF) (f3 := noF) (f4 := noF) rfl rfl rfl rfl g (by obtain rfl := List.mem_singleton.1 hg; simp)) h6
    have s3 : Sat (cx_name_Prepare w0 (Un [])) Va.z 0 [] [spansF 8 blanksL, spansF 9 nothingL, spansF 4 barredL] w0 := s2.rd (fun g hg => own2 (f1 := spansF 9 nothingL) (f2 := spansF 4 barredL) (f3 := noF) (f4 := noF) rfl rfl rfl rfl g (by simp only [List.mem_cons, List.not_mem_nil, or_false] at hg ⊢; rcases hg with h | h <;> simp [h])) h5
    have s4 : Sat (cx_name_Prepare w0 (Un [])) Va.z 0 [] [formF, spansF 8 blanksL, spansF 9 nothingL, spansF 4 barredL] w0 := s3.rd (fun g hg => own2 (f1 := spansF 8 blanksL) (f2 := spansF 9 nothingL) (f3 := spansF 4 barredL) (f4 := noF) rfl rfl rfl rfl g (by simp only [List.mem_cons, List.not_mem_nil, or_false] at hg ⊢; rcases hg with h | h | h <;> simp [h])) hf
    exact s4.rd (own2 rfl rfl rfl rfl) hf
  refine con_of_sx (cx := cx_name_Prepare w0 (Un [])) g b_name_Prepare rfl rfl (β := Va.z) [.c (.v (.string s))] 0 [] _ rfl rfl st ?_
  obtain ⟨bv, hv⟩ : ∃ bv, validB s.data.toList = bv := ⟨_, rfl⟩
  refine call_pu (v := .bool bv) (fun β w hs => by
    have h := valid_c w s (by omega) (hs.get 0 rfl)
    rw [hv] at h
    exact h) ?_
  cases bv with
  | false =>
    intro β w' hs
    refine (hs.keepB (List.nil_sublist _)).fin [] ⟨?_, rfl⟩
    unfold prepF
    rw [hv]
    rfl
  | true =>
    refine call_con [] (fun β w hs => prepared_c w s) ?_
    rintro v Fs ⟨bx, rfl, rfl⟩
    obtain ⟨T, hT⟩ : ∃ T, prepAt (runesAt s.data.toList 0) = T := ⟨_, rfl⟩
    have hTl : T.length ≤ 100000 := by
      have := prepAt_len s.data.toList
      rw [hT] at this
      omega
    have hpr : prepF s.data.toList = if T.any badZ = true then ([], 5) else (T.flatMap encZ, 0) := by unfold prepF; rw [if_pos hv, hT]
    refine range_rule (α := Int) (ι := PrS8) (κ := Unit) g rfl (cv := [.pointer (some ⟨bx, 0, none⟩)]) rfl (by kernel_rfl) 3 (Nat.le_refl 3)
      (fun pre i => pre.any badZ = false ∧ i.out = pre.flatMap encZ) (fun i => [⟨2, ty_sl_uint8, [.v (.slice i.A i.out.length i.c)]⟩, ⟨1, ty_api_Errno, [.v (.int .i64 0)]⟩, ⟨0, ty_string, [.v (.string (mkS []))]⟩]) (fun i => [browF ty_uint8 i.A i.out i.c]) (fun i => ⟨rfl, trivial⟩)
      (fun e pre _ => e = .ret ∧ pre.any badZ = true) (fun _ => [⟨1, ty_api_Errno, [.v (.int .i64 5)]⟩, ⟨0, ty_string, [.v (.string (mkS []))]⟩]) (fun _ => []) (fun _ => trivial)
      [bkF bx ty_string [.string s]] [formF, spansF 8 blanksL, spansF 9 nothingL] [formF, spansF 4 barredL] ⟨rfl, trivial⟩ (fun g h => by
        simp only [List.mem_cons, List.not_mem_nil, or_false] at h
        rcases h with rfl | rfl <;> rfl) ⟨[], none, 0⟩ ⟨rfl, rfl⟩ (fun β w hs => ⟨β, Agr.refl _ _, ?_⟩) (insPr s.data.toList)
      (fun xs Fs' => xs = T ∧ Fs' = []) (fun pre Fs' => (∃ r, T = pre ++ r) ∧ Fs' = [])
      (fun l w f0 R J Jx hJ0 hJo hRo hY hm => (prep_it l w bx s f0 R J Jx hJ0 hJo hRo hY (by omega) hm).mono fun _ Fs h => by rw [← hT]; exact h) ?_ ?_ ?_
    · exact (hs.nilRow ty_uint8 1).perm [1, 2, 4, 5, 0, 3, 6]
    · rintro ⟨out, A, c⟩ pre z args X W S l' bs pn pn' hbs ⟨hno, hout⟩ ⟨rfl, rfl, r0, hzr⟩
      simp only at hno hout
      rw [hT] at hzr
      refine ⟨_, rfl, ?_⟩
      obtain ⟨b1, hb1⟩ : ∃ b1, inSp z barredL = b1 := ⟨_, rfl⟩
      refine ⟨9, 9, 0, 9, 9, _, rfl, rfl, rfl, Nat.le_refl _, Nat.le_refl _, Nat.zero_le _, rfl, rfl, rfl, ?_⟩
      refine call_pu (v := .bool b1) (fun β w' hs => by
        have h := within_c w' z (some ⟨4, 0, none⟩) barredL 9 (hs.get 3 rfl) (by decide)
        rw [hb1] at h
        exact h) ?_
      cases b1 with
      | true =>
        have hbz : badZ z = true := by unfold badZ; rw [hb1]; rfl
        exact ⟨(), ⟨rfl, by rw [List.any_append, List.any_cons, hbz]; simp⟩, Ent.mk' trivial rfl (fun β w hs => ((hs.keepB (List.sublist_cons_self _ _)).perm []).lower (n' := 3))⟩
      | false =>
        obtain ⟨y, hy⟩ : ∃ y, bits .and .i32 z 65534 = y := ⟨_, rfl⟩
        refine ⟨y, hy, ?_⟩
        refine BIf.dec (fun h3 => ?_) (fun h3 => ?_)
        · have h30 : y = 65534 := h3
          have hbz : badZ z = true := by unfold badZ; rw [hb1, hy, decide_eq_true h30]; rfl
          exact ⟨(), ⟨rfl, by rw [List.any_append, List.any_cons, hbz]; simp⟩, Ent.mk' trivial rfl (fun β w hs => ((hs.keepB (List.sublist_cons_self _ _)).perm []).lower (n' := 3))⟩
        · have h30 : ¬ y = 65534 := h3
          have hbz : badZ z = false := by unfold badZ; rw [hb1, hy, decide_eq_false h30]; rfl
          obtain ⟨r, hz, hsg, hr31⟩ := prep_sign hv (z := z) (by rw [hT, hzr]; simp)
          have hol : out.length ≤ 400000 := by
            have h8 := flat_le encZ 4 encZ_len pre
            have h9 : pre.length ≤ T.length := by rw [hzr, List.length_append]; omega
            rw [hout]
            omega
          refine call_con [] (fun β w' hs => append_c w' A out c r z hz hr31 hsg (row_rd (hs.get 1 rfl)) (by omega) (hs.get 2 rfl)) ?_
          rintro v Fs ⟨A', c', rfl, q1, q2, rfl⟩
          exact ⟨⟨out ++ encL r, A', c'⟩, ⟨by rw [List.any_append, hno, List.any_cons, hbz]; rfl, by rw [hout, List.flatMap_append]; simp [encZ, hz]⟩, Ent.mk' trivial rfl (fun β w hs => (hs.perm [0]).lower (n' := 3))⟩
    · rintro xs ⟨out, A, c⟩ Fs ⟨hno, hout⟩ ⟨rfl, rfl⟩
      simp only at hno hout
      rw [if_neg (by rw [hno]; decide)] at hpr
      refine ⟨out, fun β w hs => row_rd (hs.get 0 rfl), ?_⟩
      intro β w' hs
      refine (hs.keepB (List.nil_sublist _)).fin [] ⟨?_, rfl⟩
      rw [hpr, ← hout]
      rfl
    · rintro e pre ⟨⟩ Fs ⟨rfl, hbad⟩ ⟨⟨r, hr⟩, rfl⟩
      rw [if_pos (by rw [hr, List.any_append, hbad]; rfl)] at hpr
      intro β w' hs
      refine (hs.keepB (List.nil_sublist _)).fin [] ⟨?_, rfl⟩
      rw [hpr]
      rfl
theorem mkSo (l : List UInt8) : (mkS l).data.toList = l := by simp [mkS]
def att (p : List UInt8) : List (List UInt8) → List (List UInt8)
  | [] => [p]
  | h :: t => (p ++ h) :: t
def splL (d : UInt8) : List UInt8 → List (List UInt8)
  | [] => [[]]
  | c :: r => if c = d then [] :: splL d r else att [c] (splL d r)
theorem splL_cons (d c : UInt8) (r : List UInt8) : splL d (c :: r) = if c = d then [] :: splL d r else att [c] (splL d r) := rfl
theorem att_ne (p : List UInt8) (L : List (List UInt8)) : att p L ≠ [] := by cases L <;> simp [att]
theorem splL_ne (d : UInt8) (s : List UInt8) : splL d s ≠ [] := by
  cases s with
  | nil => simp [splL]
  | cons c r =>
    unfold splL
    split
    · simp
    · exact att_ne _ _
theorem splL_free {d : UInt8} : ∀ {l : List UInt8}, d ∉ l → splL d l = [l]
  | [], _ => rfl
  | c :: r, h => by
    have ih := splL_free (l := r) (fun q => h (List.mem_cons_of_mem _ q))
    rw [splL_cons, if_neg (fun e => h (by rw [e]; exact List.mem_cons_self)), ih]
    rfl
theorem splL_at {d : UInt8} (r : List UInt8) : ∀ {l : List UInt8}, d ∉ l → splL d (l ++ d :: r) = l :: splL d r
  | [], _ => by show splL d (d :: r) = _; rw [splL_cons, if_pos rfl]
  | c :: t, h => by
    have ih := splL_at r (l := t) (fun q => h (List.mem_cons_of_mem _ q))
    show splL d (c :: (t ++ d :: r)) = _
    rw [splL_cons, if_neg (fun e => h (by rw [e]; exact List.mem_cons_self)), ih]
    rfl
def hdA (d : UInt8) : List UInt8 → List UInt8
  | [] => []
  | c :: r => if c = d then [] else c :: hdA d r
def hdB (d : UInt8) : List UInt8 → List UInt8
  | [] => []
  | c :: r => if c = d then r else hdB d r
theorem hdA_cons (d c : UInt8) (r : List UInt8) : hdA d (c :: r) = if c = d then [] else c :: hdA d r := rfl
theorem hdB_cons (d c : UInt8) (r : List UInt8) : hdB d (c :: r) = if c = d then r else hdB d r := rfl
theorem hdA_free (d : UInt8) : ∀ s : List UInt8, d ∉ hdA d s
  | [] => by simp [hdA]
  | c :: r => by
    rw [hdA_cons]
    by_cases h : c = d
    · rw [if_pos h]; exact fun q => by cases q
    · rw [if_neg h]
      intro q
      rcases List.mem_cons.1 q with q | q
      · exact h q.symm
      · exact hdA_free d r q
theorem hd_split {d : UInt8} : ∀ {s : List UInt8}, d ∈ s → s = hdA d s ++ d :: hdB d s
  | [], h => by cases h
  | c :: r, h => by
    rw [hdA_cons, hdB_cons]
    by_cases e : c = d
    · rw [if_pos e, if_pos e, e]; rfl
    · rw [if_neg e, if_neg e]
      have hr : d ∈ r := (List.mem_cons.1 h).elim (fun q => absurd q.symm e) id
      exact congrArg (c :: ·) (hd_split hr)
theorem hd_none {d : UInt8} : ∀ {s : List UInt8}, d ∉ s → hdA d s = s ∧ hdB d s = []
  | [], _ => ⟨rfl, rfl⟩
  | c :: r, h => by
    have hc : ¬ c = d := fun e => h (by rw [e]; exact List.mem_cons_self)
    obtain ⟨e1, e2⟩ := hd_none (s := r) fun q => h (List.mem_cons_of_mem _ q)
    rw [hdA_cons, hdB_cons, if_neg hc, if_neg hc, e1, e2]
    exact ⟨rfl, rfl⟩
theorem idx_one (d : UInt8) : ∀ s : List UInt8, _root_.Go.Lib.index s [d] = if d ∈ s then ((hdA d s).length : Int) else -1
  | [] => by rw [if_neg (fun h => by cases h)]; rfl
  | c :: r => by
    have ih := idx_one d r
    unfold _root_.Go.Lib.index
    rw [hdA_cons]
    by_cases hc : c = d
    · rw [if_pos (by simp [hc]), if_pos (by rw [hc]; exact List.mem_cons_self), if_pos hc]
      rfl
    · rw [if_neg (by simpa using fun h => hc h.symm), if_neg hc, ih]
      by_cases hr : d ∈ r
      · rw [if_pos hr, if_pos (List.mem_cons_of_mem _ hr), if_neg (by simp)]
        simp
      · rw [if_neg hr, if_neg (fun q => (List.mem_cons.1 q).elim (fun q => hc q.symm) hr)]
        rfl
theorem cut_one (d : UInt8) (s : List UInt8) : _root_.Go.Lib.cut s [d] = (hdA d s, hdB d s, decide (d ∈ s)) := by
  unfold _root_.Go.Lib.cut
  rw [idx_one]
  by_cases h : d ∈ s
  · have e := hd_split h
    rw [if_pos h, if_pos (Int.natCast_nonneg _), Int.toNat_natCast]
    rw [show decide (d ∈ s) = true from by simpa using h]
    have hl : ∀ a b : List UInt8, s = a ++ d :: b → (s.take a.length, s.drop (a.length + [d].length), true) = (a, b, true) := by
      intro a b e
      subst e
      rw [List.take_left, ← List.drop_drop, List.drop_left]
      rfl
    exact hl _ _ e
  · obtain ⟨e1, e2⟩ := hd_none h
    rw [if_neg h, if_neg (by decide), e1, e2, show decide (d ∈ s) = false from by simpa using h]
theorem writeStr_c (w : World) (b : Nat) (p : Value) (A : Option Addr) (l : List UInt8) (c : Nat) (x : List UInt8) (hp : p = .pointer none ∨ p = selfV b) (hl : l.length ≤ 100000000) (hx : x.length ≤ 100000000) (hm : Mem w (bldF b p A l c)) :
    Con Tryz.prog n_strings_Builder_WriteString #[selfV b, .string (mkS x)] w (bldF b p A l c) fun v Fs => v = .tuple #[.int .i64 (x.length : Int), .nilIface] ∧ ∃ A' c', Fs = bldF b (selfV b) A' (l ++ x) c' := by
  have g := good_strings_Builder_WriteString w (Un (bldF b p A l c))
  refine con_of_sx (cx := cx_strings_Builder_WriteString w (Un (bldF b p A l c))) g b_strings_Builder_WriteString rfl rfl (β := Va.z) [.c (.v (selfV b)), .c (.v (.string (mkS x)))] 0 [] _ rfl rfl (hm.sat0 rfl (fun f hf _ k hk => ⟨f, hf, hk⟩)) ?_
  refine call_con [0] (fun β w' hs => copyCheck_c w' b p _ hp (hs.get 0 rfl)) ?_
  rintro v Fs ⟨rfl, rfl⟩
  refine ⟨.slice A l.length c, fun β w' hs => by
    have hb : w'.heap[b]? = some (.cells #[selfV b, .slice A l.length c] ty_strings_Builder (0, 0)) := hs.get 0 rfl
    show w'.cell? ⟨b, 1, none⟩ = _
    rw [cell_of_row w' b 1 _ _ _ hb]; rfl, ?_⟩
  refine ⟨1, l.length, x.length, l.length + x.length, l.map byte, x.map byte, (l ++ x).map byte, rfl, ⟨rfl, rfl, by rw [mkSo]⟩, rfl, by simp, by rw [maxLen_eq]; omega, by show (l.length + x.length) * 1 ≤ _; omega, ?_⟩
  intro A' c' h1 h2 h3
  refine ⟨_, fun β w' hs => hs.bkSet 0 (o := 1) (us := [.slice A' (l.length + x.length) c']) rfl (Nat.le_refl 2) (fun u hu => by obtain rfl := List.mem_singleton.1 hu; rfl), ?_⟩
  intro β w' hs
  have e : (l ++ x).length = l.length + x.length := by simp
  refine hs.fin [0, 1] ⟨rfl, A', c', ?_⟩
  show [bkF b ty_strings_Builder [selfV b, .slice A' (l.length + x.length) c'], rowF ty_uint8 1 (.slice A' (l.length + x.length) c') (l.length + x.length) ((l ++ x).map byte)] = _
  rw [← e]
  rfl
theorem text0_c (w : World) (b : Nat) (p : Value) (c : Nat) (hm : Mem w [bkF b ty_strings_Builder [p, .slice none 0 c]]) :
    Con Tryz.prog n_strings_Builder_String #[selfV b] w [bkF b ty_strings_Builder [p, .slice none 0 c]] fun v Fs => v = .string (mkS []) ∧ Fs = [] := by
  have g := good_strings_Builder_String w (Un [bkF b ty_strings_Builder [p, .slice none 0 c]])
  refine con_of_sx (cx := cx_strings_Builder_String w (Un [bkF b ty_strings_Builder [p, .slice none 0 c]])) g b_strings_Builder_String rfl rfl (β := Va.z) [.c (.v (selfV b))] 0 [] _ rfl rfl (hm.sat0 rfl (fun f hf _ k hk => ⟨f, hf, hk⟩)) ?_
  refine draw_rule g p_strings_Builder_String_1 (by kernel_rfl) [] [bkF b ty_strings_Builder [p, .slice none 0 c]] Sub.refl ?_
  have hcell : ∀ (cx : Cx) (n : Nat) (β : Va) (w' : World), Sat cx β n [] [bkF b ty_strings_Builder [p, .slice none 0 c]] w' → w'.cell? ⟨b, 1, none⟩ = some (.slice none 0 c) := fun cx n β w' hs => by
    have hb : w'.heap[b]? = some (.cells #[p, .slice none 0 c] ty_strings_Builder (0, 0)) := hs.get 0 rfl
    rw [cell_of_row w' b 1 _ _ _ hb]; rfl
  refine ⟨.slice none 0 c, hcell _ _, ?_⟩
  refine ⟨.slice none 0 c, hcell _ _, ?_⟩
  refine ⟨[], _, .c (.v (.pointer none)), fun β w' ty hs => ⟨w', ?_, hs⟩, trivial, Sub.refl, ?_⟩
  · have := Lib.run_unsafeSliceData_nil (P := Tryz.prog) (w := w') #[ty_sl_uint8] ty 0 c
    simp only [builtin, Sem.run_bind]
    erw [this]
    rfl
  refine ⟨[], [bkF b ty_strings_Builder [p, .slice none 0 c]], .c (.v (.string (mkS []))), fun β w' ty hs => ⟨w', ?_, hs⟩, trivial, Sub.refl, ?_⟩
  · have := Lib.run_unsafeString_none (P := Tryz.prog) (w := w') ty_ptr_uint8 3 ty none
    simp only [builtin, Sem.run_bind]
    erw [this]
    rfl
  intro β w' hs
  exact (hs.keepB (List.nil_sublist _)).fin [] ⟨rfl, rfl⟩
def sizF (l : List UInt8) (most : Nat) : List UInt8 × Int :=
  if (prepF l).2 = 0 then if (prepF l).1 = [] then ([], 2) else if most < (prepF l).1.length then ([], 3) else ((prepF l).1, 0) else ([], (prepF l).2)
theorem mkS_nil {p : List UInt8} : mkS p = mkS [] ↔ p = [] := by
  constructor
  · intro h
    have := congrArg (fun s : ByteArray => s.data.toList) h
    simpa [mkS] using this
  · rintro rfl; rfl
theorem sized_c (w : World) (s : ByteArray) (most : Nat) (hmost : most ≤ 1000000) (hl : s.size ≤ 100000) (hf : Forms 10 w) (h5 : (spansF 8 blanksL).p w) (h6 : (spansF 9 nothingL).p w) (h4 : (spansF 4 barredL).p w) :
    Pu Tryz.prog n_name_sized #[.string s, .int .i64 (most : Int)] w (.tuple #[.string (mkS (sizF s.data.toList most).1), .int .i64 (sizF s.data.toList most).2]) := by
  have g := good_name_sized w (Un [])
  refine con_of_sx (cx := cx_name_sized w (Un [])) g b_name_sized rfl rfl (β := Va.z) [.c (.v (.string s)), .c (.v (.int .i64 (most : Int)))] 0 [] [oldF w] rfl rfl (old_sat rfl) ?_
  obtain ⟨p, e, hpe⟩ : ∃ p e, prepF s.data.toList = (p, e) := ⟨_, _, rfl⟩
  have hz : sizF s.data.toList most = if e = 0 then if p = [] then ([], 2) else if most < p.length then ([], 3) else (p, 0) else ([], e) := by unfold sizF; rw [hpe]
  refine call_pu (v := .tuple #[.string (mkS p), .int .i64 e]) (fun β w' hs => by
    have h := prepare_c w' s hl (Forms.old hf (hs.get 0 rfl)) (Rd.old h5 (hs.get 0 rfl)) (Rd.old h6 (hs.get 0 rfl)) (Rd.old h4 (hs.get 0 rfl))
    rw [hpe] at h
    exact h) ?_
  have fin : ∀ (q : List UInt8) (d : Int), sizF s.data.toList most = (q, d) → ∀ {n : Nat} {H : List Bk} {F : List Fact} (β : Va) (w' : World), Sat (cx_name_sized w (Un [])) β n H F w' → Fin w [] (fun u Fs => u = .tuple #[.string (mkS (sizF s.data.toList most).1), .int .i64 (sizF s.data.toList most).2] ∧ Fs = []) (.tuple #[.string (mkS q), .int .i64 d]) w' := by
    intro q d h n H F β w' hs
    rw [h]
    exact (hs.keepB (List.nil_sublist _)).fin [] ⟨rfl, rfl⟩
  refine BIf.not (BIf.dec (fun he => ?_) (fun he => ?_))
  · have he0 : e = 0 := he
    rw [if_pos he0] at hz
    refine BIf.dec (p := mkS p = mkS []) (fun hp => ?_) (fun hp => ?_)
    · rw [if_pos (mkS_nil.1 hp)] at hz
      exact fin [] 2 hz
    · rw [if_neg (fun q => hp (mkS_nil.2 q))] at hz
      have hsz : (mkS p).size = p.length := by simp [mkS, ByteArray.size]
      refine BIf.dec (fun hm => ?_) (fun hm => ?_)
      · have hm0 : (most : Int) < ((mkS p).size : Int) := hm
        rw [hsz] at hm0
        rw [if_pos (by omega)] at hz
        exact fin [] 3 hz
      · have hm0 : ¬ (most : Int) < ((mkS p).size : Int) := hm
        rw [hsz] at hm0
        rw [if_neg (by omega)] at hz
        rw [he0]
        exact fin p 0 hz
  · have he0 : ¬ e = 0 := he
    rw [if_neg he0] at hz
    exact fin [] e hz
theorem name_c (w : World) (s : ByteArray) (hl : s.size ≤ 100000) (hf : Forms 10 w) (h5 : (spansF 8 blanksL).p w) (h6 : (spansF 9 nothingL).p w) (h4 : (spansF 4 barredL).p w) :
    Pu Tryz.prog n_name_Name #[.string s] w (.tuple #[.string (mkS (sizF s.data.toList 32).1), .int .i64 (sizF s.data.toList 32).2]) := by
  have g := good_name_Name w (Un [])
  refine con_of_sx (cx := cx_name_Name w (Un [])) g b_name_Name rfl rfl (β := Va.z) [.c (.v (.string s))] 0 [] [oldF w] rfl rfl (old_sat rfl) ?_
  refine call_pu (fun β w' hs => sized_c w' s 32 (by decide) hl (Forms.old hf (hs.get 0 rfl)) (Rd.old h5 (hs.get 0 rfl)) (Rd.old h6 (hs.get 0 rfl)) (Rd.old h4 (hs.get 0 rfl))) ?_
  intro β w' hs
  exact hs.fin [] ⟨rfl, rfl⟩
def okc (x : UInt8) : Bool := decide ((97 ≤ x.toNat ∧ x.toNat ≤ 122) ∨ (48 ≤ x.toNat ∧ x.toNat ≤ 57) ∨ x.toNat = 45 ∨ x.toNat = 95)
def plainF (l : List UInt8) : Bool := l.all okc && (decide (l ≠ []) && decide (l.length ≤ 32))
set_option maxHeartbeats 1000000 in
theorem plain_c (w : World) (s : ByteArray) (hl : s.size ≤ 100000) : Pu Tryz.prog n_name_Plain #[.string s] w (.bool (plainF s.data.toList)) := by
  have g := good_name_Plain w (Un [])
  have hlen : s.data.toList.length = s.size := rfl
  refine con_of_sx (cx := cx_name_Plain w (Un [])) g b_name_Plain rfl rfl (β := Va.z) [.c (.v (.string s))] 0 [] [] rfl rfl (Sat.start rfl) ?_
  intro b c hc _
  refine loop_rule 0 (fun k : Nat => [(0, .c (.v (.string s))), (6, .c (.v (.slice (some ⟨b, 0, none⟩) s.size c))), (7, .c (.v (.int .i64 s.size))), (8, .c (.v (.int .i64 (k : Int))))]) (fun _ => []) (fun _ => [rdoF 1 (some ⟨b, 0, none⟩) s.size (s.data.toList.map byte)])
    (fun k => k ≤ s.size ∧ (s.data.toList.take k).all okc = true) (fun k => s.size - k) 0 ⟨Nat.zero_le _, rfl⟩ (Ent.same ⟨rfl, rfl, rfl, rfl, trivial⟩ rfl) g ?_
  rintro k ⟨hk, hall⟩
  refine BIf.dec (fun hlt => ?_) (fun hge => ?_)
  · have hlt0 : (k : Int) < s.size := hlt
    have hkl : k < s.size := by omega
    obtain ⟨x, hx, hxm⟩ := at_lt (l := s.data.toList) (k := k) (by omega)
    obtain ⟨z, hz⟩ : ∃ z : Int, (x.toNat : Int) = z := ⟨_, rfl⟩
    have hsn : okc x = true → (s.data.toList.take (k + 1)).all okc = true := fun h => by rw [List.take_add_one, hx, List.all_append, hall]; simp [h]
    have bad : okc x = false → ∀ {n : Nat} {H : List Bk} {F : List Fact} (β : Va) (w' : World), Sat (cx_name_Plain w (Un [])) β n H F w' → Fin w [] (fun u Fs => u = .bool (plainF s.data.toList) ∧ Fs = []) (.bool false) w' := by
      intro h n H F β w' hs
      refine (hs.keepB (List.nil_sublist _)).fin [] ⟨?_, rfl⟩
      have : s.data.toList.all okc = false := by
        rw [List.all_eq_false]
        exact ⟨x, hxm, by rw [h]; decide⟩
      unfold plainF
      rw [this]
      rfl
    refine ⟨⟨b, 0, none⟩, k, rfl, rfl, hkl, .int .u8 z, fun β w' hs => by rw [← hz]; exact Rd.cell1 (u := byte x) (hs.get 0 rfl) (by rw [List.getElem?_map, hx]; rfl), ?_⟩
    conv => whnf
    generalize h1 : decide ((97 : Int) ≤ z) = b1
    cases b1 with
    | true =>
      conv => whnf
      generalize h2 : decide (z ≤ (122 : Int)) = b2
      cases b2 with
      | true =>
        refine ⟨((k + 1 : Nat) : Int), by rw [wrap_i64 (by omega) (by omega)]; rfl, ?_⟩
        exact ⟨k + 1, ⟨hkl, hsn (by simp only [decide_eq_true_eq, decide_eq_false_iff_not] at *; simp only [okc, decide_eq_true_eq]; omega)⟩, by omega, Ent.same ⟨rfl, rfl, rfl, rfl, trivial⟩ rfl⟩
      | false =>
        conv => whnf
        generalize h3 : decide ((48 : Int) ≤ z) = b3
        cases b3 with
        | true =>
          conv => whnf
          generalize h4 : decide (z ≤ (57 : Int)) = b4
          cases b4 with
          | true =>
            refine ⟨((k + 1 : Nat) : Int), by rw [wrap_i64 (by omega) (by omega)]; rfl, ?_⟩
            exact ⟨k + 1, ⟨hkl, hsn (by simp only [decide_eq_true_eq, decide_eq_false_iff_not] at *; simp only [okc, decide_eq_true_eq]; omega)⟩, by omega, Ent.same ⟨rfl, rfl, rfl, rfl, trivial⟩ rfl⟩
          | false =>
            conv => whnf
            generalize h5 : decide (z = (45 : Int)) = b5
            cases b5 with
            | true =>
              refine ⟨((k + 1 : Nat) : Int), by rw [wrap_i64 (by omega) (by omega)]; rfl, ?_⟩
              exact ⟨k + 1, ⟨hkl, hsn (by simp only [decide_eq_true_eq, decide_eq_false_iff_not] at *; simp only [okc, decide_eq_true_eq]; omega)⟩, by omega, Ent.same ⟨rfl, rfl, rfl, rfl, trivial⟩ rfl⟩
            | false =>
              conv => whnf
              generalize h6 : decide (z = (95 : Int)) = b6
              cases b6 with
              | true =>
                refine ⟨((k + 1 : Nat) : Int), by rw [wrap_i64 (by omega) (by omega)]; rfl, ?_⟩
                exact ⟨k + 1, ⟨hkl, hsn (by simp only [decide_eq_true_eq, decide_eq_false_iff_not] at *; simp only [okc, decide_eq_true_eq]; omega)⟩, by omega, Ent.same ⟨rfl, rfl, rfl, rfl, trivial⟩ rfl⟩
              | false =>
                exact bad (by simp only [decide_eq_true_eq, decide_eq_false_iff_not] at *; simp only [okc, decide_eq_false_iff_not]; omega)
        | false =>
          conv => whnf
          generalize h5 : decide (z = (45 : Int)) = b5
          cases b5 with
          | true =>
            refine ⟨((k + 1 : Nat) : Int), by rw [wrap_i64 (by omega) (by omega)]; rfl, ?_⟩
            exact ⟨k + 1, ⟨hkl, hsn (by simp only [decide_eq_true_eq, decide_eq_false_iff_not] at *; simp only [okc, decide_eq_true_eq]; omega)⟩, by omega, Ent.same ⟨rfl, rfl, rfl, rfl, trivial⟩ rfl⟩
          | false =>
            conv => whnf
            generalize h6 : decide (z = (95 : Int)) = b6
            cases b6 with
            | true =>
              refine ⟨((k + 1 : Nat) : Int), by rw [wrap_i64 (by omega) (by omega)]; rfl, ?_⟩
              exact ⟨k + 1, ⟨hkl, hsn (by simp only [decide_eq_true_eq, decide_eq_false_iff_not] at *; simp only [okc, decide_eq_true_eq]; omega)⟩, by omega, Ent.same ⟨rfl, rfl, rfl, rfl, trivial⟩ rfl⟩
            | false =>
              exact bad (by simp only [decide_eq_true_eq, decide_eq_false_iff_not] at *; simp only [okc, decide_eq_false_iff_not]; omega)
    | false =>
      conv => whnf
      generalize h3 : decide ((48 : Int) ≤ z) = b3
      cases b3 with
      | true =>
        conv => whnf
        generalize h4 : decide (z ≤ (57 : Int)) = b4
        cases b4 with
        | true =>
          refine ⟨((k + 1 : Nat) : Int), by rw [wrap_i64 (by omega) (by omega)]; rfl, ?_⟩
          exact ⟨k + 1, ⟨hkl, hsn (by simp only [decide_eq_true_eq, decide_eq_false_iff_not] at *; simp only [okc, decide_eq_true_eq]; omega)⟩, by omega, Ent.same ⟨rfl, rfl, rfl, rfl, trivial⟩ rfl⟩
        | false =>
          conv => whnf
          generalize h5 : decide (z = (45 : Int)) = b5
          cases b5 with
          | true =>
            refine ⟨((k + 1 : Nat) : Int), by rw [wrap_i64 (by omega) (by omega)]; rfl, ?_⟩
            exact ⟨k + 1, ⟨hkl, hsn (by simp only [decide_eq_true_eq, decide_eq_false_iff_not] at *; simp only [okc, decide_eq_true_eq]; omega)⟩, by omega, Ent.same ⟨rfl, rfl, rfl, rfl, trivial⟩ rfl⟩
          | false =>
            conv => whnf
            generalize h6 : decide (z = (95 : Int)) = b6
            cases b6 with
            | true =>
              refine ⟨((k + 1 : Nat) : Int), by rw [wrap_i64 (by omega) (by omega)]; rfl, ?_⟩
              exact ⟨k + 1, ⟨hkl, hsn (by simp only [decide_eq_true_eq, decide_eq_false_iff_not] at *; simp only [okc, decide_eq_true_eq]; omega)⟩, by omega, Ent.same ⟨rfl, rfl, rfl, rfl, trivial⟩ rfl⟩
            | false =>
              exact bad (by simp only [decide_eq_true_eq, decide_eq_false_iff_not] at *; simp only [okc, decide_eq_false_iff_not]; omega)
      | false =>
        conv => whnf
        generalize h5 : decide (z = (45 : Int)) = b5
        cases b5 with
        | true =>
          refine ⟨((k + 1 : Nat) : Int), by rw [wrap_i64 (by omega) (by omega)]; rfl, ?_⟩
          exact ⟨k + 1, ⟨hkl, hsn (by simp only [decide_eq_true_eq, decide_eq_false_iff_not] at *; simp only [okc, decide_eq_true_eq]; omega)⟩, by omega, Ent.same ⟨rfl, rfl, rfl, rfl, trivial⟩ rfl⟩
        | false =>
          conv => whnf
          generalize h6 : decide (z = (95 : Int)) = b6
          cases b6 with
          | true =>
            refine ⟨((k + 1 : Nat) : Int), by rw [wrap_i64 (by omega) (by omega)]; rfl, ?_⟩
            exact ⟨k + 1, ⟨hkl, hsn (by simp only [decide_eq_true_eq, decide_eq_false_iff_not] at *; simp only [okc, decide_eq_true_eq]; omega)⟩, by omega, Ent.same ⟨rfl, rfl, rfl, rfl, trivial⟩ rfl⟩
          | false =>
            exact bad (by simp only [decide_eq_true_eq, decide_eq_false_iff_not] at *; simp only [okc, decide_eq_false_iff_not]; omega)
  · have hge0 : ¬ (k : Int) < s.size := hge
    obtain rfl : k = s.size := by omega
    rw [← hlen, List.take_length] at hall
    have hpl : plainF s.data.toList = (decide (s.data.toList ≠ []) && decide (s.data.toList.length ≤ 32)) := by unfold plainF; rw [hall, Bool.true_and]
    refine BIf.not (BIf.dec (p := s = mkS []) (fun he => ?_) (fun he => ?_))
    · intro β w' hs
      refine (hs.keepB (List.nil_sublist _)).fin [] ⟨?_, rfl⟩
      rw [hpl, he]
      rfl
    · have hne : s.data.toList ≠ [] := fun q => he (by
        have : s = mkS s.data.toList := by cases s; rfl
        rw [this, q])
      intro β w' hs
      refine (hs.keepB (List.nil_sublist _)).fin [] ⟨?_, rfl⟩
      rw [hpl, decide_eq_true hne, Bool.true_and, hlen]
      show Value.bool (decide ((s.size : Int) ≤ 32)) = _
      congr 1
      exact decide_eq_decide.2 (by omega)
def nameA (s : ByteArray) : ByteArray × Int := (mkS (sizF s.data.toList 32).1, (sizF s.data.toList 32).2)
structure NamT (w : World) : Prop where
  f : Forms 10 w
  s5 : (spansF 8 blanksL).p w
  s6 : (spansF 9 nothingL).p w
  s4 : (spansF 4 barredL).p w
theorem NamT.old {W w : World} (h : NamT W) (ho : (oldF W).p w) : NamT w := ⟨Forms.old h.f ho, Rd.old h.s5 ho, Rd.old h.s6 ho, Rd.old h.s4 ho⟩
theorem NamT.sat {cx : Cx} {β : Va} {n : Nat} {H : List Bk} {F : List Fact} {w : World} (hs : Sat cx β n H F w) (j : Nat) {W : World} (hj : nth F j = some (oldF W)) (h : NamT W) : NamT w := h.old (hs.get j hj)
theorem nameA_c (w : World) (s : ByteArray) (hl : s.size ≤ 100000) (hn : NamT w) : Pu Tryz.prog n_name_Name #[.string s] w (.tuple #[.string (nameA s).1, .int .i64 (nameA s).2]) :=
  name_c w s hl hn.f hn.s5 hn.s6 hn.s4
def namF : Fact := readF [formF, spansF 8 blanksL, spansF 9 nothingL, spansF 4 barredL]
theorem namF_T {w : World} (h : namF.p w) : NamT w := ⟨h formF (by simp), h (spansF 8 blanksL) (by simp), h (spansF 9 nothingL) (by simp), h (spansF 4 barredL) (by simp)⟩
def saltedN (n : Nat) (it : Int) : Bool := decide (1 ≤ n) && (decide (n ≤ 32) && (decide (1 ≤ it) && decide (it ≤ 64)))
theorem csalted_c (w : World) (A : Option Addr) (n c : Nat) (it : Int) : Pu Tryz.prog n_cred_salted #[.slice A n c, .int .i64 it] w (.bool (saltedN n it)) := by
  have g := good_cred_salted w (Un [])
  refine con_of_sx (cx := cx_cred_salted w (Un [])) g b_cred_salted rfl rfl (β := Va.z) [.c (.v (.slice A n c)), .c (.v (.int .i64 it))] 0 [] [] rfl rfl (Sat.start rfl) ?_
  conv => whnf
  generalize h1 : decide ((1 : Int) ≤ (n : Int)) = b1
  have e1 : decide (1 ≤ n) = b1 := by rw [← h1]; exact decide_eq_decide.2 (by omega)
  cases b1 with
  | false =>
    intro β w' hs
    refine hs.fin [] ⟨?_, rfl⟩
    unfold saltedN
    rw [e1]
    rfl
  | true =>
    conv => whnf
    generalize h2 : decide ((n : Int) ≤ (32 : Int)) = b2
    have e2 : decide (n ≤ 32) = b2 := by rw [← h2]; exact decide_eq_decide.2 (by omega)
    cases b2 with
    | false =>
      intro β w' hs
      refine hs.fin [] ⟨?_, rfl⟩
      unfold saltedN
      rw [e1, e2]
      rfl
    | true =>
      conv => whnf
      generalize h3 : decide ((1 : Int) ≤ it) = b3
      cases b3 with
      | false =>
        intro β w' hs
        refine hs.fin [] ⟨?_, rfl⟩
        unfold saltedN
        rw [e1, e2, h3]
        rfl
      | true =>
        intro β w' hs
        refine hs.fin [] ⟨?_, rfl⟩
        unfold saltedN
        rw [e1, e2, h3]
        rfl
theorem all_step {p : UInt8 → Bool} {s : List UInt8} {k : Nat} {x : UInt8} (hx : s[k]? = some x) (h : (s.take k).all p = true) (hp : p x = true) : (s.take (k + 1)).all p = true := by
  rw [List.take_add_one, hx, List.all_append, h]
  simp [hp]
end Go.Proofs.YteenjgfbbkdlhaaGreatDoor.Sx

namespace Go.Proofs.YteenjgfbbkdlhaaGreatDoor.Sx
open Go
def plnC (x : UInt8) : Bool := decide (33 ≤ x.toNat) && (decide (x.toNat ≤ 126) && (decide (x.toNat ≠ 34) && decide (x.toNat ≠ 92)))
def insC (x : UInt8) : Bool := decide (32 ≤ x.toNat) && decide (x.toNat ≠ 127)
def addQ (c : UInt8) (q : List UInt8 × List UInt8) : List UInt8 × List UInt8 := (c :: q.1, q.2)
def quotS : Bool → List UInt8 → Option (List UInt8 × List UInt8)
  | _, [] => none
  | false, c :: r => if c.toNat = 34 then some ([], r) else if c.toNat = 92 then quotS true r else if insC c = true then (quotS false r).map (addQ c) else none
  | true, c :: r => if c.toNat = 34 ∨ c.toNat = 92 then (quotS false r).map (addQ c) else if c.toNat = 110 then (quotS false r).map (addQ 10) else none
theorem quotS_len : ∀ (b : Bool) (s : List UInt8) (q : List UInt8 × List UInt8), quotS b s = some q → q.1.length + q.2.length < s.length
  | _, [], _, h => by cases h
  | false, c :: r, q, h => by
    have ih := quotS_len false r
    have ih2 := quotS_len true r
    simp only [quotS] at h
    split at h
    · cases h; simp
    split at h
    · have := ih2 q h
      simp only [List.length_cons]
      omega
    split at h
    · obtain ⟨q', hq, rfl⟩ := Option.map_eq_some_iff.1 h
      have := ih q' hq
      simp only [addQ, List.length_cons]
      omega
    · cases h
  | true, c :: r, q, h => by
    have ih := quotS_len false r
    simp only [quotS] at h
    split at h
    · obtain ⟨q', hq, rfl⟩ := Option.map_eq_some_iff.1 h
      have := ih q' hq
      simp only [addQ, List.length_cons]
      omega
    split at h
    · obtain ⟨q', hq, rfl⟩ := Option.map_eq_some_iff.1 h
      have := ih q' hq
      simp only [addQ, List.length_cons]
      omega
    · cases h
def wordF : List UInt8 → Option (List UInt8 × List UInt8)
  | [] => none
  | c :: r => if c.toNat = 34 then quotS false r else if plnC c = true then some ((c :: r).takeWhile plnC, (c :: r).dropWhile plnC) else none
theorem take_drop_len (p : UInt8 → Bool) : ∀ s : List UInt8, (s.takeWhile p).length + (s.dropWhile p).length = s.length
  | [] => rfl
  | c :: r => by
    have := take_drop_len p r
    rw [List.takeWhile_cons, List.dropWhile_cons]
    cases p c
    · simp
    · simp only [if_true, List.length_cons]; omega
theorem wordF_len {s : List UInt8} {q : List UInt8 × List UInt8} (h : wordF s = some q) : q.1.length + q.2.length ≤ s.length ∧ q.2.length < s.length := by
  cases s with
  | nil => cases h
  | cons c r =>
    simp only [wordF] at h
    split at h
    · have := quotS_len false r q h
      simp only [List.length_cons]
      omega
    split at h
    · rename_i hc
      cases h
      have := take_drop_len plnC (c :: r)
      refine ⟨Nat.le_of_eq this, ?_⟩
      rw [List.takeWhile_cons, if_pos hc, List.length_cons] at this
      simp only
      omega
    · cases h
def wordsG : Nat → List UInt8 → List (List UInt8) × Bool
  | 0, _ => ([], false)
  | n + 1, s => match wordF s with
    | none => ([], false)
    | some (w, []) => ([w], true)
    | some (w, c :: r) => if c.toNat = 32 then (w :: (wordsG n r).1, (wordsG n r).2) else ([w], false)
theorem wordsG_fuel : ∀ (n m : Nat) (s : List UInt8), s.length < n → s.length < m → wordsG n s = wordsG m s
  | 0, _, _, h, _ => by omega
  | _, 0, _, _, h => by omega
  | n + 1, m + 1, s, hn, hm => by
    simp only [wordsG]
    cases h : wordF s with
    | none => rfl
    | some q =>
      obtain ⟨w, r⟩ := q
      have hl := wordF_len h
      cases r with
      | nil => rfl
      | cons c r =>
        simp only [List.length_cons] at hl
        show (if c.toNat = 32 then (w :: (wordsG n r).1, (wordsG n r).2) else ([w], false)) = (if c.toNat = 32 then (w :: (wordsG m r).1, (wordsG m r).2) else ([w], false))
        rw [wordsG_fuel n m r (by omega) (by omega)]
def wordsF (s : List UInt8) : List (List UInt8) × Bool := wordsG (s.length + 1) s
theorem wordsF_eq {n : Nat} {s : List UInt8} (h : s.length < n) : wordsG n s = wordsF s := wordsG_fuel _ _ _ h (Nat.lt_succ_self _)
theorem wordsF_step (s : List UInt8) : wordsF s = match wordF s with
    | none => ([], false)
    | some (w, []) => ([w], true)
    | some (w, c :: r) => if c.toNat = 32 then (w :: (wordsF r).1, (wordsF r).2) else ([w], false) := by
  unfold wordsF
  rw [wordsG]
  cases h : wordF s with
  | none => rfl
  | some q =>
    obtain ⟨w, r⟩ := q
    have hl := wordF_len h
    cases r with
    | nil => rfl
    | cons c r =>
      simp only [List.length_cons] at hl
      simp only
      rw [wordsF_eq (show r.length < s.length by omega)]
      rfl
theorem wordsG_len : ∀ (n : Nat) (s : List UInt8), (wordsG n s).1.length ≤ s.length ∧ ∀ w ∈ (wordsG n s).1, w.length ≤ s.length
  | 0, s => ⟨Nat.zero_le _, fun _ h => by cases h⟩
  | n + 1, s => by
    simp only [wordsG]
    cases h : wordF s with
    | none => exact ⟨Nat.zero_le _, fun _ h => by cases h⟩
    | some q =>
      obtain ⟨w, r⟩ := q
      have hl := wordF_len h
      simp only at hl
      have one : ∀ x ∈ [w], x.length ≤ s.length := fun x hx => by
        obtain rfl := List.mem_singleton.1 hx
        omega
      cases r with
      | nil => exact ⟨by simp only [List.length_singleton, List.length_nil] at hl ⊢; omega, one⟩
      | cons c r =>
        have ih := wordsG_len n r
        simp only [List.length_cons] at hl
        simp only
        split
        · refine ⟨by simp only [List.length_cons]; omega, fun x hx => ?_⟩
          rcases List.mem_cons.1 hx with rfl | hx
          · omega
          · have := ih.2 x hx; omega
        · exact ⟨by simp only [List.length_singleton]; omega, one⟩
theorem wordsF_len (s : List UInt8) : (wordsF s).1.length ≤ s.length ∧ ∀ w ∈ (wordsF s).1, w.length ≤ s.length := wordsG_len _ s
theorem wordsF_ne {s : List UInt8} (h : (wordsF s).2 = true) : (wordsF s).1 ≠ [] := by
  intro h0
  rw [wordsF_step] at h h0
  cases hw : wordF s with
  | none => rw [hw] at h; cases h
  | some q =>
    obtain ⟨w, r⟩ := q
    rw [hw] at h h0
    cases r with
    | nil => cases h0
    | cons c r =>
      simp only at h h0
      split at h0 <;> cases h0
end Go.Proofs.YteenjgfbbkdlhaaGreatDoor.Sx

namespace Go.Proofs
open Go.Shelf
end Go.Proofs

namespace Go.Proofs.YteenjgfbbkdlhaaGreatDoor.Sx
open Go
attribute [local irreducible] Calls
def strs (l : List ByteArray) : List Value := l.map Value.string
theorem strs_one (l : List ByteArray) : ∀ u ∈ strs l, u.oneCell' = true := by
  intro u hu
  obtain ⟨x, _, rfl⟩ := List.mem_map.1 hu
  rfl
abbrev srowF (A : Option Addr) (l : List ByteArray) (c : Nat) : Fact := rowF ty_string 1 (.slice A l.length c) l.length (strs l)
end Go.Proofs.YteenjgfbbkdlhaaGreatDoor.Sx

namespace Go.Proofs.YteenjgfbbkdlhaaGreatDoor.Sx
open Go
attribute [local irreducible] Calls
structure Ro where
  A : Option Addr
  c : Nat
  l : List UInt8
  hc : l.length ≤ c
def Ro.v (r : Ro) : Value := .slice r.A r.l.length r.c
def Ro.f (r : Ro) : Fact := rdoF 1 r.A r.l.length (r.l.map byte)
theorem rdo_rd {size : Nat} {A : Option Addr} {k : Nat} {xs : List Value} {w : World} (h : (rdoF size A k xs).p w) : Rd size A k xs w := h
theorem browRo {e : Nat} {A : Option Addr} {l : List UInt8} {c : Nat} {w : World} (h : (browF e A l c).p w) : (rdoF 1 A l.length (l.map byte)).p w := row_rd h
theorem browRoD {e : Nat} {A : Option Addr} {l : List UInt8} {c : Nat} {w : World} (h : (browF e A l c).p w) : ∀ k, (rdoF 1 A l.length (l.map byte)).D k → (browF e A l c).D k := by
  rintro k ⟨hk, ad, q, rfl⟩
  have hl : 0 < l.length := by
    have : 0 < l.length * 1 := hk
    omega
  have q' : A = some ad := q
  rcases h.2 with ⟨he, h0⟩ | ⟨g, cap, cur, he, _⟩
  · omega
  · have hA : A = some ⟨g, 0, none⟩ := by injection he
    rw [q'] at hA
    obtain rfl := Option.some.inj hA
    show Value.ownBlock (.slice A l.length c) = _
    rw [q']
    rfl
inductive Recs (w' : World) : List Fact → List Fact → Prop
  | nil : Recs w' [] []
  | cons {f g : Fact} {Fs Gs : List Fact} (h : g.own = true ∧ (f.p w' → g.p w') ∧ ∀ k, g.D k → f.D k) (r : Recs w' Fs Gs) : Recs w' (f :: Fs) (g :: Gs)
theorem Fin.recast {w : World} {Gs : List Fact} {R R' : Value → List Fact → Prop} {v : Value} {w' : World} (h : Fin w Gs R v w')
    (hr : ∀ Fs, R v Fs → (∀ f ∈ Fs, f.p w') → ∃ Fs', R' v Fs' ∧ Recs w' Fs Fs') : Fin w Gs R' v w' := by
  obtain ⟨Fs, h1, h2, h3, h4, h5⟩ := h
  obtain ⟨Fs', q1, q2⟩ := hr Fs h1 h3.fact
  have key : ∀ {Fs Fs' : List Fact}, Recs w' Fs Fs' → Mem w' Fs → Owns Fs → Mem w' Fs' ∧ Owns Fs' ∧ ∀ g ∈ Fs', ∃ f ∈ Fs, ∀ k, g.D k → f.D k := by
    intro Fs Fs' hf
    induction hf with
    | nil => intro _ _; exact ⟨⟨fun _ q => (by cases q), fun _ q => (by cases q), List.Pairwise.nil⟩, trivial, fun _ q => (by cases q)⟩
    | @cons f g Fs Fs' hfg hrest ih =>
      intro hm ho
      obtain ⟨i1, i2, i3⟩ := ih ⟨fun x hx => hm.fact x (List.mem_cons_of_mem _ hx), fun x hx => hm.flt x (List.mem_cons_of_mem _ hx), (List.pairwise_cons.1 hm.sepf).2⟩ ho.2
      refine ⟨⟨fun x hx => ?_, fun x hx k hk => ?_, List.pairwise_cons.2 ⟨fun x hx _ k hk hk' => ?_, i1.sepf⟩⟩, ⟨hfg.1, i2⟩, fun x hx => ?_⟩
      · rcases List.mem_cons.1 hx with rfl | hx
        · exact hfg.2.1 (hm.fact f List.mem_cons_self)
        · exact i1.fact x hx
      · rcases List.mem_cons.1 hx with rfl | hx
        · exact hm.flt f List.mem_cons_self k (hfg.2.2 k hk)
        · exact i1.flt x hx k hk
      · obtain ⟨y, hy, hyd⟩ := i3 x hx
        exact (List.pairwise_cons.1 hm.sepf).1 y hy (.inl ho.1) k (hfg.2.2 k hk) (hyd k hk')
      · rcases List.mem_cons.1 hx with rfl | hx
        · exact ⟨f, List.mem_cons_self, hfg.2.2⟩
        · obtain ⟨y, hy, hyd⟩ := i3 x hx
          exact ⟨y, List.mem_cons_of_mem _ hy, hyd⟩
  obtain ⟨k1, k2, k3⟩ := key q2 h3 h4
  exact ⟨Fs', q1, h2, k1, k2, fun g hg k hk => by obtain ⟨f, hf, hfd⟩ := k3 g hg; exact h5 f hf k (hfd k hk)⟩
theorem cloneRo_c (w : World) (A : Option Addr) (l : List UInt8) (n c : Nat) (hn : n = l.length) (hr : Bs w A l) (hl : l.length ≤ 1000000) :
    Con Tryz.prog n_bytes_Clone #[.slice A n c] w [] fun v Fs => ∃ r : Ro, r.l = l ∧ v = r.v ∧ Fs = [r.f] := by
  subst hn
  refine Calls.mono (clone_c w A l c hr (by omega)) ?_
  rintro e w' ⟨v, rfl, hf⟩
  refine ⟨v, rfl, hf.recast ?_⟩
  rintro Fs ⟨A', c', rfl, hc, _, rfl⟩ hp
  have hp0 := hp _ List.mem_cons_self
  exact ⟨[Ro.f ⟨A', c', l, hc⟩], ⟨⟨A', c', l, hc⟩, rfl, rfl, rfl⟩, .cons ⟨rfl, fun h => browRo h, browRoD hp0⟩ .nil⟩
theorem Un.app {A B : List Fact} {k : Nat} : Un (A ++ B) k ↔ Un A k ∨ Un B k := by
  unfold Un
  constructor
  · rintro ⟨g, hg, hk⟩
    rcases List.mem_append.1 hg with h | h
    · exact .inl ⟨g, h, hk⟩
    · exact .inr ⟨g, h, hk⟩
  · rintro (⟨g, hg, hk⟩ | ⟨g, hg, hk⟩)
    · exact ⟨g, List.mem_append_left _ hg, hk⟩
    · exact ⟨g, List.mem_append_right _ hg, hk⟩
theorem Un.cons {x : Fact} {B : List Fact} {k : Nat} : Un (x :: B) k ↔ x.D k ∨ Un B k := by
  unfold Un
  constructor
  · rintro ⟨g, hg, hk⟩
    rcases List.mem_cons.1 hg with rfl | h
    · exact .inl hk
    · exact .inr ⟨g, h, hk⟩
  · rintro (hk | ⟨g, hg, hk⟩)
    · exact ⟨x, List.mem_cons_self, hk⟩
    · exact ⟨g, List.mem_cons_of_mem _ hg, hk⟩
theorem sep_mid {A B : List Fact} {x : Fact} {w : World} : (sepF (A ++ x :: B)).p w ↔ x.p w ∧ (sepF (A ++ B)).p w ∧ ∀ k, x.D k → ¬ Un (A ++ B) k := by
  show ((∀ f ∈ A ++ x :: B, f.p w) ∧ (A ++ x :: B).Pairwise _) ↔ x.p w ∧ ((∀ f ∈ A ++ B, f.p w) ∧ (A ++ B).Pairwise _) ∧ _
  rw [List.pairwise_append, List.pairwise_cons, List.pairwise_append]
  constructor
  · rintro ⟨h1, h2, ⟨h3, h4⟩, h5⟩
    refine ⟨h1 x (by simp), ⟨fun f hf => h1 f ?_, h2, h4, fun a ha b hb => h5 a ha b (List.mem_cons_of_mem _ hb)⟩, fun k hk q => ?_⟩
    · rcases List.mem_append.1 hf with h | h
      · exact List.mem_append_left _ h
      · exact List.mem_append_right _ (List.mem_cons_of_mem _ h)
    · rcases Un.app.1 q with ⟨g, hg, hk'⟩ | ⟨g, hg, hk'⟩
      · exact h5 g hg x List.mem_cons_self k hk' hk
      · exact h3 g hg k hk hk'
  · rintro ⟨h1, ⟨h2, h3, h4, h5⟩, h6⟩
    refine ⟨fun f hf => ?_, h3, ⟨fun g hg k hk hk' => h6 k hk (Un.app.2 (.inr ⟨g, hg, hk'⟩)), h4⟩, fun a ha b hb k hk hk' => ?_⟩
    · rcases List.mem_append.1 hf with h | h
      · exact h2 f (List.mem_append_left _ h)
      · rcases List.mem_cons.1 h with rfl | h
        · exact h1
        · exact h2 f (List.mem_append_right _ h)
    · rcases List.mem_cons.1 hb with rfl | hb
      · exact h6 k hk' (Un.app.2 (.inl ⟨a, ha, hk⟩))
      · exact h5 a ha b hb k hk hk'
section
variable {cx : Cx} {β : Va} {n : Nat} {H : List Bk} {F : List Fact} {w : World}
theorem Sat.focus (h : Sat cx β n H F w) (j : Nat) {A B : List Fact} {x : Fact} (hj : nth F j = some (sepF (A ++ x :: B))) (hx : x.own = true) : Sat cx β n H (x :: sepF (A ++ B) :: dropIx [j] 0 F) w := by
  have hp := sep_mid.1 (h.get j hj)
  have hl := h.getLt j hj
  have htk : takeIx F [j] = [sepF (A ++ x :: B)] := by simp only [takeIx, hj]
  have hin : ∀ k, x.D k ∨ Un (A ++ B) k → Un (A ++ x :: B) k := by
    intro k hk
    rcases hk with hk | hk
    · exact Un.app.2 (.inr (Un.cons.2 (.inl hk)))
    · rcases Un.app.1 hk with hk | hk
      · exact Un.app.2 (.inl hk)
      · exact Un.app.2 (.inr (Un.cons.2 (.inr hk)))
  refine h.swap [j] (by rw [htk]; exact ⟨rfl, trivial⟩) (Fs := [x, sepF (A ++ B)]) (Chg.refl _ _) ⟨fun f hf => ?_, fun f hf k hk => ?_, ?_⟩ (fun f hf k hk => ?_)
  · simp only [List.mem_cons, List.not_mem_nil, or_false] at hf
    rcases hf with rfl | rfl
    · exact hp.1
    · exact hp.2.1
  · simp only [List.mem_cons, List.not_mem_nil, or_false] at hf
    rcases hf with rfl | rfl
    · exact hl k (hin k (.inl hk))
    · exact hl k (hin k (.inr hk))
  · refine List.pairwise_cons.2 ⟨fun f hf _ k hk => ?_, List.pairwise_singleton _ _⟩
    obtain rfl := List.mem_singleton.1 hf
    exact hp.2.2 k hk
  · rw [htk]
    simp only [List.mem_cons, List.not_mem_nil, or_false] at hf
    refine .inl ⟨_, List.mem_singleton.2 rfl, ?_⟩
    rcases hf with rfl | rfl
    · exact hin k (.inl hk)
    · exact hin k (.inr hk)
theorem Sat.blur (h : Sat cx β n H F w) (i j : Nat) {A B : List Fact} {x : Fact} (hi : nth F i = some x) (hj : nth F j = some (sepF (A ++ B))) (hx : x.own = true) (hne : i ≠ j) : Sat cx β n H (sepF (A ++ x :: B) :: dropIx [i, j] 0 F) w := by
  have h1 := h.get i hi
  have h2 := h.get j hj
  have ap := h.apart (i := i) (j := j) (by rw [← nth_eq]; exact hi) (by rw [← nth_eq]; exact hj) hne (.inl hx)
  have htk : takeIx F [i, j] = [x, sepF (A ++ B)] := by simp only [takeIx, hi, hj]
  have hin : ∀ k, Un (A ++ x :: B) k → x.D k ∨ Un (A ++ B) k := by
    intro k hk
    rcases Un.app.1 hk with hk | hk
    · exact .inr (Un.app.2 (.inl hk))
    · rcases Un.cons.1 hk with hk | hk
      · exact .inl hk
      · exact .inr (Un.app.2 (.inr hk))
  refine h.swap [i, j] (by rw [htk]; exact ⟨hx, rfl, trivial⟩) (Fs := [sepF (A ++ x :: B)]) (Chg.refl _ _) ⟨fun f hf => ?_, fun f hf k hk => ?_, List.pairwise_singleton _ _⟩ (fun f hf k hk => ?_)
  · obtain rfl := List.mem_singleton.1 hf
    exact sep_mid.2 ⟨h1, h2, ap⟩
  · obtain rfl := List.mem_singleton.1 hf
    rcases hin k hk with q | q
    · exact h.getLt i hi k q
    · exact h.getLt j hj k q
  · obtain rfl := List.mem_singleton.1 hf
    rw [htk]
    rcases hin k hk with q | q
    · exact .inl ⟨x, List.mem_cons_self, q⟩
    · exact .inl ⟨_, List.mem_cons_of_mem _ List.mem_cons_self, q⟩
end
end Go.Proofs.YteenjgfbbkdlhaaGreatDoor.Sx

namespace Go.Proofs.YteenjgfbbkdlhaaGreatDoor.Sx
open Go
structure ASec where
  salt : List UInt8
  iter : Int
  stored : List UInt8
  server : List UInt8
  ha1 : List UInt8
structure ACrd where
  tenant : ByteArray
  user : ByteArray
  sec : ASec
  gen : Nat
  roles : List ByteArray
  revoked : Bool
abbrev ATs := List (ByteArray × List ACrd)
structure ASto where
  ts : ATs
  last : Nat
  reads : Int
def aten : ATs → ByteArray → Option (List ACrd)
  | [], _ => none
  | (k, us) :: r, t => if k = t then some us else aten r t
def ausr : List ACrd → ByteArray → Option ACrd
  | [], _ => none
  | c :: r, n => if c.user = n then some c else ausr r n
def atenU : ATs → ByteArray → (List ACrd → List ACrd) → ATs
  | [], _, _ => []
  | (k, us) :: r, t, f => if k = t then (k, f us) :: r else (k, us) :: atenU r t f
def ausrU : List ACrd → ByteArray → (ACrd → ACrd) → List ACrd
  | [], _, _ => []
  | c :: r, n, f => if c.user = n then f c :: r else c :: ausrU r n f
def atenD : ATs → ByteArray → ATs
  | [], _ => []
  | (k, us) :: r, t => if k = t then r else (k, us) :: atenD r t
def ausrD : List ACrd → ByteArray → List ACrd
  | [], _ => []
  | c :: r, n => if c.user = n then r else c :: ausrD r n
def aget (X : ASto) (t n : ByteArray) : Option ACrd := (aten X.ts t).bind fun us => ausr us n
def aone (X : ASto) (t u : ByteArray) : Option ACrd := if (nameA u).2 = 0 then aget X t (nameA u).1 else none
def saltedA (l : List UInt8) (iter : Int) : Bool := decide (1 ≤ l.length) && (decide (l.length ≤ 32) && (decide (1 ≤ iter) && decide (iter ≤ 64)))
def rightA (x : ASec) : Bool := saltedA x.salt x.iter && (decide (x.stored.length = 32) && (decide (x.server.length = 32) && decide (x.ha1.length = 32)))
def greatN : Nat := 9007199254740992
structure Sec where
  salt : Ro
  iter : Int
  stored : Ro
  server : Ro
  ha1 : Ro
def Sec.vs (x : Sec) : List Value := [x.salt.v, .int .i64 x.iter, x.stored.v, x.server.v, x.ha1.v]
def Sec.fs (x : Sec) : List Fact := [x.salt.f, x.stored.f, x.server.f, x.ha1.f]
def Sec.a (x : Sec) : ASec := ⟨x.salt.l, x.iter, x.stored.l, x.server.l, x.ha1.l⟩
def strsF (A : Option Addr) (l : List ByteArray) : Fact := rdoF 1 A l.length (l.map Value.string)
structure Crd where
  b : Nat
  tenant : ByteArray
  user : ByteArray
  sec : Sec
  gen : Nat
  rA : Option Addr
  rc : Nat
  roles : List ByteArray
  revoked : Bool
def Crd.vs (c : Crd) : List Value := .string c.tenant :: .string c.user :: (c.sec.vs ++ [.int .u64 c.gen, .slice c.rA c.roles.length c.rc, .bool c.revoked])
def Crd.parts (c : Crd) : List Fact := strsF c.rA c.roles :: c.sec.fs
def Crd.fs (c : Crd) : List Fact := bkF c.b ty_cred_Cred c.vs :: c.parts
def Crd.a (c : Crd) : ACrd := ⟨c.tenant, c.user, c.sec.a, c.gen, c.roles, c.revoked⟩
def crdF (c : Crd) : Fact := sepF c.fs
def ptr (b : Nat) : Value := .pointer (some ⟨b, 0, none⟩)
structure Ten where
  b : Nat
  name : ByteArray
  us : List Crd
def Ten.m (T : Ten) : ML := T.us.map fun c => (c.user, ptr c.b)
def tenF (T : Ten) : Fact := sepF [mapF T.b T.m, sepF (T.us.map crdF)]
def Ten.a (T : Ten) : ByteArray × List ACrd := (T.name, T.us.map Crd.a)
structure Sto where
  b : Nat
  m : Nat
  ts : List Ten
  last : Nat
  reads : Int
def Sto.vs (S : Sto) : List Value := [.map (some S.m), .int .u64 (S.last : Int), .int .u64 S.reads]
def Sto.ml (S : Sto) : ML := S.ts.map fun T => (T.name, .map (some T.b))
def stoF (S : Sto) : Fact := sepF [bkF S.b ty_cred_Store S.vs, mapF S.m S.ml, sepF (S.ts.map tenF)]
def Sto.a (S : Sto) : ASto := ⟨S.ts.map Ten.a, S.last, S.reads⟩
def tenO : List Ten → ByteArray → Option Ten
  | [], _ => none
  | T :: r, t => if T.name = t then some T else tenO r t
def crdO : List Crd → ByteArray → Option Crd
  | [], _ => none
  | c :: r, n => if c.user = n then some c else crdO r n
theorem look_ten (t : ByteArray) : ∀ ts : List Ten, (∃ A T B, ts = A ++ T :: B ∧ tenO ts t = some T ∧ T.name = t ∧ mlook (ts.map fun T => (T.name, Value.map (some T.b))) t = some (.map (some T.b)) ∧ aten (ts.map Ten.a) t = some (T.us.map Crd.a) ∧
      (∀ T' : Ten, ∀ f, T'.name = t → T'.us.map Crd.a = f (T.us.map Crd.a) → (A ++ T' :: B).map Ten.a = atenU (ts.map Ten.a) t f) ∧ (A ++ B).map Ten.a = atenD (ts.map Ten.a) t ∧ (A ++ B).map (fun T : Ten => (T.name, Value.map (some T.b))) = mdel (ts.map fun T => (T.name, Value.map (some T.b))) t) ∨
    (mlook (ts.map fun T => (T.name, Value.map (some T.b))) t = none ∧ aten (ts.map Ten.a) t = none ∧ tenO ts t = none)
  | [] => .inr ⟨rfl, rfl, rfl⟩
  | T :: r => by
    by_cases h : T.name = t
    · refine .inl ⟨[], T, r, rfl, by simp [tenO, h], h, ?_, ?_, ?_, ?_, ?_⟩
      · simp [mlook, h]
      · simp [aten, Ten.a, h]
      · intro T' f h1 h2
        simp [atenU, Ten.a, h, h1, h2]
      · simp [atenD, Ten.a, h]
      · simp [mdel, h]
    · rcases look_ten t r with ⟨A, T0, B, rfl, h0, h1, h2, h3, h4, h5, h6⟩ | ⟨h1, h2, h3⟩
      · refine .inl ⟨T :: A, T0, B, rfl, by simpa [tenO, h] using h0, h1, ?_, ?_, ?_, ?_, ?_⟩
        · simpa [mlook, h] using h2
        · simpa [aten, Ten.a, h] using h3
        · intro T' f q1 q2
          have := h4 T' f q1 q2
          simp only [List.cons_append, List.map_cons, Ten.a, atenU, if_neg h] at this ⊢
          rw [this]
        · simp only [List.cons_append, List.map_cons, Ten.a, atenD, if_neg h] at h5 ⊢
          rw [h5]
        · simp only [List.cons_append, List.map_cons, mdel, if_neg h] at h6 ⊢
          rw [h6]
      · refine .inr ⟨?_, ?_, ?_⟩
        · simpa [mlook, h] using h1
        · simpa [aten, Ten.a, h] using h2
        · simpa [tenO, h] using h3
theorem look_crd (n : ByteArray) : ∀ us : List Crd, (∃ A c B, us = A ++ c :: B ∧ crdO us n = some c ∧ c.user = n ∧ mlook (us.map fun c => (c.user, ptr c.b)) n = some (ptr c.b) ∧ ausr (us.map Crd.a) n = some c.a ∧
      (∀ c' : Crd, ∀ f, c'.user = n → c'.a = f c.a → (A ++ c' :: B).map Crd.a = ausrU (us.map Crd.a) n f) ∧ (A ++ B).map Crd.a = ausrD (us.map Crd.a) n ∧ (A ++ B).map (fun c : Crd => (c.user, ptr c.b)) = mdel (us.map fun c => (c.user, ptr c.b)) n ∧
      (∀ c' : Crd, c'.user = n → c'.b = c.b → (A ++ c' :: B).map (fun c : Crd => (c.user, ptr c.b)) = us.map fun c => (c.user, ptr c.b))) ∨
    (mlook (us.map fun c => (c.user, ptr c.b)) n = none ∧ ausr (us.map Crd.a) n = none ∧ crdO us n = none)
  | [] => .inr ⟨rfl, rfl, rfl⟩
  | c :: r => by
    by_cases h : c.user = n
    · refine .inl ⟨[], c, r, rfl, by simp [crdO, h], h, ?_, ?_, ?_, ?_, ?_, ?_⟩
      · simp [mlook, h]
      · simp [ausr, Crd.a, h]
      · intro c' f h1 h2
        have h0 : c.a.user = n := h
        simp [ausrU, h0, h2]
      · simp [ausrD, Crd.a, h]
      · simp [mdel, h]
      · intro c' h1 h2
        simp [h1, h2, h]
    · have h0 : ¬ c.a.user = n := h
      rcases look_crd n r with ⟨A, c0, B, rfl, h8, h1, h2, h3, h4, h5, h6, h7⟩ | ⟨h1, h2, h3⟩
      · refine .inl ⟨c :: A, c0, B, rfl, by simpa [crdO, h] using h8, h1, ?_, ?_, ?_, ?_, ?_, ?_⟩
        · simpa [mlook, h] using h2
        · simp only [List.map_cons, ausr, if_neg h0]; exact h3
        · intro c' f q1 q2
          have := h4 c' f q1 q2
          simp only [List.cons_append, List.map_cons, ausrU, if_neg h0] at this ⊢
          rw [this]
        · simp only [List.cons_append, List.map_cons, ausrD, if_neg h0] at h5 ⊢
          rw [h5]
        · simp only [List.cons_append, List.map_cons, mdel, if_neg h] at h6 ⊢
          rw [h6]
        · intro c' q1 q2
          have := h7 c' q1 q2
          simp only [List.cons_append, List.map_cons] at this ⊢
          rw [this]
      · refine .inr ⟨?_, ?_, ?_⟩
        · simpa [mlook, h] using h1
        · simp only [List.map_cons, ausr, if_neg h0]; exact h2
        · simpa [crdO, h] using h3
end Go.Proofs.YteenjgfbbkdlhaaGreatDoor.Sx

namespace Go.Proofs.YteenjgfbbkdlhaaGreatDoor.Sx
open Go
attribute [local irreducible] Calls
theorem fact_old' {f : Fact} {W w : World} (h : f.p W) (hD : ∀ k, f.D k → k < W.heap.size) (ho : (oldF W).p w) : f.p w := f.st W w (fun k hk => ho k (hD k hk)) h
theorem sto_bk {S : Sto} {w : World} (h : (stoF S).p w) : (bkF S.b ty_cred_Store S.vs).p w := h.1 _ (by simp)
theorem sto_map {S : Sto} {w : World} (h : (stoF S).p w) : mapP S.m S.ml w := h.1 (mapF S.m S.ml) (by simp)
theorem sto_ten {S : Sto} {w : World} (h : (stoF S).p w) {A B : List Ten} {T : Ten} (hT : S.ts = A ++ T :: B) : (tenF T).p w := by
  have h1 : (sepF (S.ts.map tenF)).p w := h.1 _ (by simp)
  exact h1.1 _ (by rw [hT]; simp)
theorem ten_map {T : Ten} {w : World} (h : (tenF T).p w) : mapP T.b T.m w := h.1 (mapF T.b T.m) (by simp)
theorem ten_crd {T : Ten} {w : World} (h : (tenF T).p w) {A B : List Crd} {c : Crd} (hc : T.us = A ++ c :: B) : (crdF c).p w := by
  have h1 : (sepF (T.us.map crdF)).p w := h.1 _ (by simp)
  exact h1.1 _ (by rw [hc]; simp)
theorem crd_bk {c : Crd} {w : World} (h : (crdF c).p w) : (bkF c.b ty_cred_Cred c.vs).p w := h.1 _ (by simp [Crd.fs])
theorem bkc {b ty : Nat} {cs : List Value} {w : World} (h : (bkF b ty cs).p w) {o : Nat} {v : Value} (ho : cs[o]? = some v) : w.cell? ⟨b, o, none⟩ = some v := by
  have h' : w.heap[b]? = some (.cells cs.toArray ty (0, 0)) := h
  rw [cell_of_row w b o _ _ _ h']
  simpa using ho
def mapV : Option Ten → Value
  | some T => .map (some T.b)
  | none => .map none
def crdV : Option Crd → Value
  | some c => ptr c.b
  | none => .pointer none
def Sto.usr (S : Sto) (t u : ByteArray) : Option Crd := if (nameA u).2 = 0 then (tenO S.ts t).bind fun T => crdO T.us (nameA u).1 else none
theorem zero_map (w : World) : (zeroValue ty_map_string_ptr_cred_Cred).run Tryz.prog w = .ok (.map none) w := by kernel_rfl
theorem zero_ptrC (w : World) : (zeroValue ty_ptr_cred_Cred).run Tryz.prog w = .ok (.pointer none) w := by kernel_rfl
theorem users_c (w : World) (S : Sto) (t : ByteArray) (h : (stoF S).p w) (hl : ∀ k, (stoF S).D k → k < w.heap.size) : Pu Tryz.prog n_cred_Store_users #[ptr S.b, .string t] w (mapV (tenO S.ts t)) := by
  have g := good_cred_Store_users w (Un [])
  refine con_of_sx (cx := cx_cred_Store_users w (Un [])) g b_cred_Store_users rfl rfl (β := Va.z) [.c (.v (ptr S.b)), .c (.v (.string t))] 0 [] [oldF w] rfl rfl (old_sat rfl) ?_
  refine ⟨.map (some S.m), fun β w' hs => bkc (sto_bk (fact_old' h hl (hs.get 0 rfl))) rfl, ?_⟩
  refine ⟨.map none, fun w => zero_map w, S.ml, mlook S.ml t, fun β w' hs => sto_map (fact_old' h hl (hs.get 0 rfl)), rfl, ?_⟩
  rcases look_ten t S.ts with ⟨A, T, B, e, h0, h1, h2, _⟩ | ⟨h1, h2, h3⟩
  · rw [show mlook S.ml t = _ from h2, h0]
    intro β w' hs
    exact hs.fin [] ⟨rfl, rfl⟩
  · rw [show mlook S.ml t = _ from h1, h3]
    intro β w' hs
    exact hs.fin [] ⟨rfl, rfl⟩
theorem get_c (w : World) (S : Sto) (t u : ByteArray) (h : (stoF S).p w) (hl : ∀ k, (stoF S).D k → k < w.heap.size) (hu : u.size ≤ 100000) (hn : NamT w) : Pu Tryz.prog n_cred_Store_get #[ptr S.b, .string t, .string u] w (crdV (S.usr t u)) := by
  have g := good_cred_Store_get w (Un [])
  refine con_of_sx (cx := cx_cred_Store_get w (Un [])) g b_cred_Store_get rfl rfl (β := Va.z) [.c (.v (ptr S.b)), .c (.v (.string t)), .c (.v (.string u))] 0 [] [oldF w] rfl rfl (old_sat rfl) ?_
  obtain ⟨p, e, hpe⟩ : ∃ p e, nameA u = (p, e) := ⟨_, _, rfl⟩
  refine call_pu (v := .tuple #[.string p, .int .i64 e]) (fun β w' hs => by
    have h := nameA_c w' u hu (hn.old (hs.get 0 rfl))
    rw [hpe] at h
    exact h) ?_
  have hus : S.usr t u = if e = 0 then (tenO S.ts t).bind fun T => crdO T.us p else none := by unfold Sto.usr; rw [hpe]
  refine BIf.not (BIf.dec (fun he => ?_) (fun he => ?_))
  · have he0 : e = 0 := he
    rw [if_pos he0] at hus
    rcases look_ten t S.ts with ⟨A, T, B, eT, h0, h1, h2, _⟩ | ⟨h1, h2, h3⟩
    · refine call_pu (v := .map (some T.b)) (fun β w' hs => by
        have h := users_c w' S t (fact_old' h hl (hs.get 0 rfl)) (fun k hk => Nat.lt_of_lt_of_le (hl k hk) hs.chg.size)
        rw [h0] at h
        exact h) ?_
      refine ⟨.pointer none, fun w => zero_ptrC w, T.m, mlook T.m p, fun β w' hs => ten_map (sto_ten (fact_old' h hl (hs.get 0 rfl)) eT), rfl, ?_⟩
      rw [h0] at hus
      rcases look_crd p T.us with ⟨U, c, V, eU, q0, q1, q2, _⟩ | ⟨q1, q2, q3⟩
      · rw [show mlook T.m p = _ from q2]
        intro β w' hs
        refine hs.fin [] ⟨?_, rfl⟩
        rw [hus]
        show _ = crdV (crdO T.us p)
        rw [q0]
        rfl
      · rw [show mlook T.m p = _ from q1]
        intro β w' hs
        refine hs.fin [] ⟨?_, rfl⟩
        rw [hus]
        show _ = crdV (crdO T.us p)
        rw [q3]
        rfl
    · refine call_pu (v := .map none) (fun β w' hs => by
        have h := users_c w' S t (fact_old' h hl (hs.get 0 rfl)) (fun k hk => Nat.lt_of_lt_of_le (hl k hk) hs.chg.size)
        rw [h3] at h
        exact h) ?_
      refine ⟨.pointer none, fun w => zero_ptrC w, ?_⟩
      intro β w' hs
      refine hs.fin [] ⟨?_, rfl⟩
      rw [hus, h3]
      rfl
  · have he0 : ¬ e = 0 := he
    rw [if_neg he0] at hus
    intro β w' hs
    refine hs.fin [] ⟨?_, rfl⟩
    rw [hus]
    rfl
structure SecV where
  A1 : Option Addr
  n1 : Nat
  c1 : Nat
  it : Int
  A2 : Option Addr
  n2 : Nat
  c2 : Nat
  A3 : Option Addr
  n3 : Nat
  c3 : Nat
  A4 : Option Addr
  n4 : Nat
  c4 : Nat
def SecV.vs (x : SecV) : List Value := [.slice x.A1 x.n1 x.c1, .int .i64 x.it, .slice x.A2 x.n2 x.c2, .slice x.A3 x.n3 x.c3, .slice x.A4 x.n4 x.c4]
def SecV.ss (x : SecV) : List SL := [.v (.slice x.A1 x.n1 x.c1), .v (.int .i64 x.it), .v (.slice x.A2 x.n2 x.c2), .v (.slice x.A3 x.n3 x.c3), .v (.slice x.A4 x.n4 x.c4)]
def rightN (x : SecV) : Bool := saltedN x.n1 x.it && (decide (x.n2 = 32) && (decide (x.n3 = 32) && decide (x.n4 = 32)))
theorem cright_c (w : World) (x : SecV) : Pu Tryz.prog n_cred_Secret_right #[.agg x.vs.toArray] w (.bool (rightN x)) := by
  have g := good_cred_Secret_right w (Un [])
  refine con_of_sx (cx := cx_cred_Secret_right w (Un [])) g b_cred_Secret_right rfl rfl (β := Va.z) [.agg x.ss] 0 [] [] rfl rfl (Sat.start rfl) ?_
  refine call_pu (fun β w' hs => csalted_c w' x.A1 x.n1 x.c1 x.it) ?_
  generalize hq : saltedN x.n1 x.it = b0
  cases b0 with
  | false =>
    intro β w' hs
    refine (hs.keepB (List.nil_sublist _)).fin [] ⟨?_, rfl⟩
    unfold rightN
    rw [hq]
    rfl
  | true =>
    conv => whnf
    generalize h1 : decide ((x.n2 : Int) = (32 : Int)) = b1
    have e1 : decide (x.n2 = 32) = b1 := by rw [← h1]; exact decide_eq_decide.2 (by omega)
    cases b1 with
    | false =>
      intro β w' hs
      refine (hs.keepB (List.nil_sublist _)).fin [] ⟨?_, rfl⟩
      unfold rightN
      rw [hq, e1]
      rfl
    | true =>
      conv => whnf
      generalize h2 : decide ((x.n3 : Int) = (32 : Int)) = b2
      have e2 : decide (x.n3 = 32) = b2 := by rw [← h2]; exact decide_eq_decide.2 (by omega)
      cases b2 with
      | false =>
        intro β w' hs
        refine (hs.keepB (List.nil_sublist _)).fin [] ⟨?_, rfl⟩
        unfold rightN
        rw [hq, e1, e2]
        rfl
      | true =>
        intro β w' hs
        refine (hs.keepB (List.nil_sublist _)).fin [] ⟨?_, rfl⟩
        unfold rightN
        rw [hq, e1, e2]
        show Value.bool (decide ((x.n4 : Int) = (32 : Int))) = _
        congr 1
        exact decide_eq_decide.2 (by omega)
structure SRd (x : SecV) (a : ASec) (w : World) : Prop where
  n1 : x.n1 = a.salt.length
  it : x.it = a.iter
  n2 : x.n2 = a.stored.length
  n3 : x.n3 = a.server.length
  n4 : x.n4 = a.ha1.length
  r1 : Bs w x.A1 a.salt
  r2 : Bs w x.A2 a.stored
  r3 : Bs w x.A3 a.server
  r4 : Bs w x.A4 a.ha1
theorem SRd.old {x : SecV} {a : ASec} {W w : World} (h : SRd x a W) (ho : (oldF W).p w) : SRd x a w := ⟨h.n1, h.it, h.n2, h.n3, h.n4, Rd.old h.r1 ho, Rd.old h.r2 ho, Rd.old h.r3 ho, Rd.old h.r4 ho⟩
theorem SRd.right {x : SecV} {a : ASec} {w : World} (h : SRd x a w) : rightN x = rightA a := by
  unfold rightN rightA saltedN saltedA
  rw [h.n1, h.it, h.n2, h.n3, h.n4]
structure ASz (a : ASec) : Prop where
  s : a.salt.length ≤ 1000000
  d : a.stored.length ≤ 1000000
  v : a.server.length ≤ 1000000
  h : a.ha1.length ≤ 1000000
def Sec.x (y : Sec) : SecV := ⟨y.salt.A, y.salt.l.length, y.salt.c, y.iter, y.stored.A, y.stored.l.length, y.stored.c, y.server.A, y.server.l.length, y.server.c, y.ha1.A, y.ha1.l.length, y.ha1.c⟩
theorem Sec.rd {y : Sec} {w : World} (h : ∀ f ∈ y.fs, f.p w) : SRd y.x y.a w :=
  ⟨rfl, rfl, rfl, rfl, rfl, h y.salt.f (by simp [Sec.fs]), h y.stored.f (by simp [Sec.fs]), h y.server.f (by simp [Sec.fs]), h y.ha1.f (by simp [Sec.fs])⟩
theorem scopyOf_c (w : World) (x : SecV) (a : ASec) (hr : SRd x a w) (hz : ASz a) :
    Con Tryz.prog n_cred_Secret_copyOf #[.agg x.vs.toArray] w [] fun v Fs => ∃ y : Sec, y.a = a ∧ v = .agg y.vs.toArray ∧ Fs = [y.ha1.f, y.server.f, y.stored.f, y.salt.f] := by
  have g := good_cred_Secret_copyOf w (Un [])
  refine con_of_sx (cx := cx_cred_Secret_copyOf w (Un [])) g b_cred_Secret_copyOf rfl rfl (β := Va.z) [.agg x.ss] 0 [] [oldF w] rfl rfl (old_sat rfl) ?_
  have hS : ∀ {n : Nat} {F : List Fact}, Sub (cx_cred_Secret_copyOf w (Un [])) n [⟨1, ty_cred_Secret, ti110.zero.map SL.v⟩, ⟨0, ty_cred_Secret, x.ss⟩] F [⟨0, ty_cred_Secret, x.ss⟩] [] := fun {n F} => Sub.of (List.sublist_cons_self _ _) (List.nil_sublist _)
  refine draw_rule g p_cred_Secret_copyOf_1 (by kernel_rfl) [⟨0, ty_cred_Secret, x.ss⟩] [] hS ?_
  refine call_con [] (fun β w' hs => cloneRo_c w' x.A1 a.salt x.n1 x.c1 hr.n1 (Rd.old hr.r1 (hs.get 0 rfl)) hz.s) ?_
  rintro v Fs ⟨r1, e1, rfl, rfl⟩
  refine ⟨hS, ?_⟩
  refine call_con [] (fun β w' hs => cloneRo_c w' x.A2 a.stored x.n2 x.c2 hr.n2 (Rd.old hr.r2 (hs.get 1 rfl)) hz.d) ?_
  rintro v Fs ⟨r2, e2, rfl, rfl⟩
  refine ⟨hS, ?_⟩
  refine call_con [] (fun β w' hs => cloneRo_c w' x.A3 a.server x.n3 x.c3 hr.n3 (Rd.old hr.r3 (hs.get 2 rfl)) hz.v) ?_
  rintro v Fs ⟨r3, e3, rfl, rfl⟩
  refine ⟨hS, ?_⟩
  refine call_con [] (fun β w' hs => cloneRo_c w' x.A4 a.ha1 x.n4 x.c4 hr.n4 (Rd.old hr.r4 (hs.get 3 rfl)) hz.h) ?_
  rintro v Fs ⟨r4, e4, rfl, rfl⟩
  refine ⟨hS, ?_⟩
  intro β w' hs
  refine (hs.keepB (List.nil_sublist _)).fin [0, 1, 2, 3] ⟨⟨r1, x.it, r2, r3, r4⟩, ?_, rfl, rfl⟩ rfl rfl rfl ⟨rfl, rfl, rfl, rfl, trivial⟩
  show ASec.mk r1.l x.it r2.l r3.l r4.l = a
  rw [e1, e2, e3, e4, hr.it]
theorem cloneS_c (w : World) (A : Option Addr) (l : List ByteArray) (c : Nat) (hr : Rd 1 A l.length (strs l) w) (hn : l.length ≤ 1000000) :
    Con Tryz.prog n_slices_Clone_string_string #[.slice A l.length c] w [] fun v Fs => ∃ A' c', v = .slice A' l.length c' ∧ l.length ≤ c' ∧ c' ≤ maxLen ∧ Fs = [srowF A' l c'] := by
  refine con_of_sx (cx := cx_slices_Clone_string_string w (Un [])) (good_slices_Clone_string_string w (Un [])) b_slices_Clone_string_string rfl rfl (β := Va.z) [.c (.v (.slice A l.length c))] 0 [] [rdF 1 A l.length (strs l)] rfl rfl ((Sat.start rfl).rd (fun _ h => by cases h) hr) ?_
  refine BIf.mk (fun h => ?_) (fun h => ?_)
  · intro β w' hs
    have hA : A = none := by simpa using h
    subst hA
    have hl : l = [] := by
      cases l with
      | nil => rfl
      | cons x r => obtain ⟨ad, q, _⟩ := hr.2 (by simp); cases q
    subst hl
    exact (hs.nilRow ty_string 1).fin [0] ⟨none, 0, rfl, Nat.le_refl _, Nat.zero_le _, rfl⟩
  intro b
  refine ⟨0, 0, l.length, [], strs l, _, rfl, fun β w hs => hs.get 1 rfl, strs_one l, Nat.zero_add _, rfl, by rw [maxLen_eq]; omega, by show l.length * 16 ≤ _; omega, ?_⟩
  intro A' c' h1 h2 h3 β w' hs
  exact hs.fin [0] ⟨A', c', rfl, h1, h2, rfl⟩
theorem touched_c (w : World) (b cb last : Nat) (m r : Value) (cs : List Value) (hlen : cs.length = 10) (hlast : last < greatN) (hm : Mem w [bkF b ty_cred_Store [m, .int .u64 (last : Int), r], bkF cb ty_cred_Cred cs]) :
    Con Tryz.prog n_cred_Store_touched #[ptr b, ptr cb] w [bkF b ty_cred_Store [m, .int .u64 (last : Int), r], bkF cb ty_cred_Cred cs] fun v Fs => v = .int .i64 0 ∧ Fs = [bkF b ty_cred_Store [m, .int .u64 ((last + 1 : Nat) : Int), r], bkF cb ty_cred_Cred (putAll cs 7 [.int .u64 ((last + 1 : Nat) : Int)])] := by
  have g := good_cred_Store_touched w (Un [bkF b ty_cred_Store [m, .int .u64 (last : Int), r], bkF cb ty_cred_Cred cs])
  refine con_of_sx (cx := cx_cred_Store_touched w (Un [bkF b ty_cred_Store [m, .int .u64 (last : Int), r], bkF cb ty_cred_Cred cs])) g b_cred_Store_touched rfl rfl (β := Va.z) [.c (.v (ptr b)), .c (.v (ptr cb))] 0 [] [bkF b ty_cred_Store [m, .int .u64 (last : Int), r], bkF cb ty_cred_Cred cs] rfl rfl (hm.sat0 rfl (fun f hf ho k hk => ⟨f, hf, hk⟩)) ?_
  refine ⟨.int .u64 (last : Int), fun β w' hs => bkc (hs.get 0 rfl) rfl, ((last + 1 : Nat) : Int), ?_, ?_⟩
  · rw [wrap_u64']; unfold greatN at hlast; omega
  refine ⟨[bkF b ty_cred_Store [m, .int .u64 ((last + 1 : Nat) : Int), r], bkF cb ty_cred_Cred cs], fun β w' hs => ?_, ?_⟩
  · exact hs.bkSet 0 (o := 1) (us := [.int .u64 ((last + 1 : Nat) : Int)]) rfl (by simp) (fun u hu => by obtain rfl := List.mem_singleton.1 hu; rfl)
  refine ⟨.int .u64 ((last + 1 : Nat) : Int), fun β w' hs => bkc (hs.get 0 rfl) rfl, ?_⟩
  refine ⟨[bkF b ty_cred_Store [m, .int .u64 ((last + 1 : Nat) : Int), r], bkF cb ty_cred_Cred (putAll cs 7 [.int .u64 ((last + 1 : Nat) : Int)])], fun β w' hs => ?_, ?_⟩
  · exact hs.bkSet 1 (o := 7) (us := [.int .u64 ((last + 1 : Nat) : Int)]) rfl (by rw [hlen]; simp) (fun u hu => by obtain rfl := List.mem_singleton.1 hu; rfl)
  intro β w' hs
  exact hs.fin [0, 1] ⟨rfl, rfl⟩
end Go.Proofs.YteenjgfbbkdlhaaGreatDoor.Sx

namespace Go.Proofs.YteenjgfbbkdlhaaGreatDoor.Sx
open Go Go.Maps Go.Shelf Go.RowKit
attribute [local irreducible] Calls
end Go.Proofs.YteenjgfbbkdlhaaGreatDoor.Sx

namespace Go.Proofs.YteenjgfbbkdlhaaGreatDoor.Sx
open Go
attribute [local irreducible] Calls
abbrev prowF (A : Option Addr) (L : List (List UInt8)) (c : Nat) : Fact := rowF ty_string 1 (.slice A L.length c) L.length (L.map fun x => Value.string (mkS x))
theorem mkS_ext (l : List UInt8) (i j : Nat) (_hj : j ≤ l.length) : (mkS l).extract i j = mkS ((l.take j).drop i) := by
  apply ByteArray.ext
  simp [mkS, List.extract_eq_take_drop]
  rw [List.drop_take]
theorem splL_len (d : UInt8) : ∀ s : List UInt8, (splL d s).length ≤ s.length + 1
  | [] => Nat.le_refl _
  | c :: r => by
    have ih := splL_len d r
    rw [splL_cons]
    split
    · simp only [List.length_cons]; omega
    · cases h : splL d r with
      | nil => exact absurd h (splL_ne d r)
      | cons a t => rw [h] at ih; simp only [att, List.length_cons] at ih ⊢; omega
end Go.Proofs.YteenjgfbbkdlhaaGreatDoor.Sx

namespace Go.Proofs.YteenjgfbbkdlhaaGreatDoor.Sx
open Go
def e62 : Bool → UInt8
  | true => 45
  | false => 43
def e63 : Bool → UInt8
  | true => 95
  | false => 47
def valA (url : Bool) (c : UInt8) : Option Nat :=
  if 65 ≤ c.toNat ∧ c.toNat ≤ 90 then some (c.toNat - 65) else if 97 ≤ c.toNat ∧ c.toNat ≤ 122 then some (c.toNat - 97 + 26) else if 48 ≤ c.toNat ∧ c.toNat ≤ 57 then some (c.toNat - 48 + 52)
  else if c = e62 url then some 62 else if c = e63 url then some 63 else none
def u8n (n : Nat) : UInt8 := UInt8.ofNat n
def decG : List Nat → Option (List UInt8)
  | a :: b :: c :: d :: r => (decG r).map fun l => u8n (a * 4 + b / 16) :: u8n (b % 16 * 16 + c / 4) :: u8n (c % 4 * 64 + d) :: l
  | [a, b, c] => if c % 4 = 0 then some [u8n (a * 4 + b / 16), u8n (b % 16 * 16 + c / 4)] else none
  | [a, b] => if b % 16 = 0 then some [u8n (a * 4 + b / 16)] else none
  | [_] => none
  | [] => some []
def valsA (url : Bool) : List UInt8 → Option (List Nat)
  | [] => some []
  | c :: r => match valA url c, valsA url r with
    | some v, some vs => some (v :: vs)
    | _, _ => none
def digA (c : UInt8) : Option Nat := if 48 ≤ c.toNat ∧ c.toNat ≤ 57 then some (c.toNat - 48) else if 97 ≤ c.toNat ∧ c.toNat ≤ 102 then some (c.toNat - 97 + 10) else none
def unhexA : List UInt8 → Option (List UInt8)
  | a :: b :: r => match digA a, digA b, unhexA r with
    | some x, some y, some l => some (u8n (x * 16 + y) :: l)
    | _, _, _ => none
  | [_] => none
  | [] => some []
theorem hi2 {y : Nat} (h : y < 32) : 192 ||| UInt8.ofNat y = UInt8.ofNat (192 + y) := by
  have key : ∀ n : _root_.Fin 32, 192 ||| UInt8.ofNat n.1 = UInt8.ofNat (192 + n.1) := by decide +kernel
  exact key ⟨y, h⟩
theorem hi3 {y : Nat} (h : y < 16) : 224 ||| UInt8.ofNat y = UInt8.ofNat (224 + y) := by
  have key : ∀ n : _root_.Fin 16, 224 ||| UInt8.ofNat n.1 = UInt8.ofNat (224 + n.1) := by decide +kernel
  exact key ⟨y, h⟩
theorem hi4 {y : Nat} (h : y < 8) : 240 ||| UInt8.ofNat y = UInt8.ofNat (240 + y) := by
  have key : ∀ n : _root_.Fin 8, 240 ||| UInt8.ofNat n.1 = UInt8.ofNat (240 + n.1) := by decide +kernel
  exact key ⟨y, h⟩
end Go.Proofs.YteenjgfbbkdlhaaGreatDoor.Sx

namespace Go.Proofs.YteenjgfbbkdlhaaGreatDoor.Sx
open Go
attribute [local irreducible] Calls
def lead (b : UInt8) : Option (Nat × Nat) :=
  if 194 ≤ b.toNat ∧ b.toNat ≤ 223 then some (2, b.toNat - 192)
  else if 224 ≤ b.toNat ∧ b.toNat ≤ 239 then some (3, b.toNat - 224)
  else if 240 ≤ b.toNat ∧ b.toNat ≤ 244 then some (4, b.toNat - 240)
  else none
def piecesA (k : Nat) : List UInt8 → List (List UInt8)
  | [] => []
  | c :: r => (c :: r).take (k + 1) :: piecesA k ((c :: r).drop (k + 1))
termination_by l => l.length
decreasing_by simp only [List.length_drop, List.length_cons]; omega
theorem pieces_nil (k : Nat) : piecesA k [] = [] := by rw [piecesA]
theorem pieces_ne (k : Nat) {l : List UInt8} (h : l ≠ []) : piecesA k l = l.take (k + 1) :: piecesA k (l.drop (k + 1)) := by
  cases l with
  | nil => exact absurd rfl h
  | cons c r => rw [piecesA]
theorem pieces_len (k : Nat) : ∀ (m : Nat) (l : List UInt8), l.length ≤ m → (piecesA k l).length ≤ l.length
  | 0, l, h => by
    obtain rfl : l = [] := List.length_eq_zero_iff.1 (by omega)
    rw [pieces_nil]; exact Nat.zero_le _
  | m + 1, l, h => by
    by_cases hl : l = []
    · rw [hl, pieces_nil]; exact Nat.zero_le _
    · have h0 : 0 < l.length := List.length_pos_iff.2 hl
      rw [pieces_ne k hl, List.length_cons]
      have := pieces_len k m (l.drop (k + 1)) (by rw [List.length_drop]; omega)
      rw [List.length_drop] at this
      omega
theorem mkS_take (l : List UInt8) (n : Nat) : (mkS l).extract 0 n = mkS (l.take n) := by
  apply ByteArray.ext
  simp [mkS]
theorem mkS_drop (l : List UInt8) (n : Nat) : (mkS l).extract n (mkS l).size = mkS (l.drop n) := by
  apply ByteArray.ext
  simp [mkS, ByteArray.size]
  rw [List.take_of_length_le (by rw [List.length_drop]; omega)]
theorem mkS_sz (l : List UInt8) : (mkS l).size = l.length := by simp [mkS, ByteArray.size]
theorem mkS_of (s : ByteArray) : mkS s.data.toList = s := by simp [mkS]
def insS (L : List ByteArray) (pre : List ByteArray) (x : ByteArray) (args : Array Value) (X : Fact) : Prop := args = #[.string x] ∧ X = noF ∧ L[pre.length]? = some x
def grpEnd (L : List ByteArray) (J Jx : List ByteArray → Fact → Prop) (Fs : List Fact) : Prop :=
  ∃ f Fs', Fs = f :: Fs' ∧ ((∃ xs, J xs f ∧ xs = L ∧ Fs' = []) ∨ (∃ pre, Jx pre f ∧ Fs' = []))
theorem grp_it (l : Nat) (w : World) (bs bk k : Nat) (s0 : List UInt8) (f0 R : Fact) (J Jx : List ByteArray → Fact → Prop) (kk : Int) (hkk : ((k + 1 : Nat) : Int) = kk) (hk : k ≤ 1000) (hL : s0.length ≤ 1000000) (hJ0 : J [] f0) (hJo : ∀ pre f, J pre f → f.own = true) (hRo : R.own = false) (hY : Yc Tryz.prog l J Jx R (insS ((piecesA k s0).map mkS)))
    (hm : Mem w (f0 :: R :: [bkF bs ty_string [.string (mkS s0)], bkF bk ty_int [.int .i64 kk]])) :
    Con Tryz.prog n_b64_Groups_1 #[.func (.yield l) #[] #[], .pointer (some ⟨bs, 0, none⟩), .pointer (some ⟨bk, 0, none⟩)] w [f0, bkF bs ty_string [.string (mkS s0)], bkF bk ty_int [.int .i64 kk]] (fun _ Fs => grpEnd ((piecesA k s0).map mkS) J Jx Fs) := by
  have g := good_b64_Groups_1 w (Un [f0, bkF bs ty_string [.string (mkS s0)], bkF bk ty_int [.int .i64 kk]]) [bs, bk]
  have hs0 : Sat (cx_b64_Groups_1 w (Un [f0, bkF bs ty_string [.string (mkS s0)], bkF bk ty_int [.int .i64 kk]]) [bs, bk]) (Va.of fun i => [bs, bk].getD i 0) 2 [] (f0 :: R :: [bkF bs ty_string [.string (mkS s0)], bkF bk ty_int [.int .i64 kk]]) w := by
    refine hm.sat rfl (fun f hf ho k hk => ?_) ⟨Nat.le_refl 2, fun i _ => rfl⟩
    simp only [List.mem_cons, List.not_mem_nil, or_false] at hf
    rcases hf with rfl | rfl | rfl | rfl
    · exact ⟨_, by simp, hk⟩
    · rw [hRo] at ho; cases ho
    · exact ⟨bkF bs ty_string [.string (mkS s0)], by simp, hk⟩
    · exact ⟨_, by simp, hk⟩
  have hs1 := (hs0.toBk 3 rfl 1 (by decide) rfl).toBk 2 rfl 0 (by decide) rfl
  refine con_of_sx (cx := cx_b64_Groups_1 w (Un [f0, bkF bs ty_string [.string (mkS s0)], bkF bk ty_int [.int .i64 kk]]) [bs, bk]) g b_b64_Groups_1 rfl rfl (β := Va.of fun i => [bs, bk].getD i 0) [.c (.v (.func (.yield l) #[] #[])), .c (.p 0 0), .c (.p 1 0)] 2 _ _ rfl rfl hs1 ?_
  obtain ⟨L, hLd⟩ : ∃ L, (piecesA k s0).map mkS = L := ⟨_, rfl⟩
  rw [hLd] at hY ⊢
  refine loop_rule (ι := List UInt8 × List ByteArray × Fact) 2 (fun i => [(0, .c (.v (.func (.yield l) #[] #[]))), (1, .c (.p 0 0)), (2, .c (.p 1 0))]) (fun i => [⟨0, ty_string, [.v (.string (mkS i.1))]⟩, ⟨1, ty_int, [.v (.int .i64 kk)]⟩]) (fun i => [i.2.2, R])
    (fun i => J i.2.1 i.2.2 ∧ L = i.2.1 ++ (piecesA k i.1).map mkS ∧ i.1.length ≤ 1000000) (fun i => i.1.length) (s0, [], f0) ⟨hJ0, hLd.symm, hL⟩ (Ent.mk' ⟨rfl, rfl, rfl, trivial⟩ rfl (fun β w' hs => hs)) g ?_
  rintro ⟨r, pre, f⟩ ⟨hJ, hpre, hrl⟩
  simp only at hJ hpre hrl
  have hfo := hJo _ _ hJ
  simp only
  have hsz := mkS_sz r
  obtain ⟨z, hz⟩ : ∃ z : Int, ((mkS r).size : Int) = z := ⟨_, rfl⟩
  by_cases hr : r = []
  · subst hr
    rw [pieces_nil, List.map_nil, List.append_nil] at hpre
    intro β w' hs
    exact (hs.keepB (List.nil_sublist _)).fin [0] ⟨f, _, rfl, .inl ⟨pre, hJ, hpre.symm, rfl⟩⟩ rfl rfl rfl ⟨hfo, trivial⟩
  have hr0 : 0 < r.length := List.length_pos_iff.2 hr
  refine BIf.dec (fun _ => ?_) (fun h => absurd (show (0 : Int) < ((mkS r).size : Int) by omega) h)
  refine BIf.dec (fun _ => ?_) (fun h => absurd (show (0 : Int) < kk by omega) h)
  obtain ⟨m, hm⟩ : ∃ m : Nat, m = min r.length (k + 1) := ⟨_, rfl⟩
  have hmt : r.take m = r.take (k + 1) := by
    rcases Nat.le_total r.length (k + 1) with h | h
    · rw [hm, Nat.min_eq_left h, List.take_length, List.take_of_length_le h]
    · rw [hm, Nat.min_eq_right h]
  have hmd : r.drop m = r.drop (k + 1) := by
    rcases Nat.le_total r.length (k + 1) with h | h
    · rw [hm, Nat.min_eq_left h, List.drop_length, List.drop_of_length_le h]
    · rw [hm, Nat.min_eq_right h]
  refine ⟨(m : Int), by show min _ _ = _; omega, ?_⟩
  refine ⟨m, 0, rfl, rfl, by omega, Nat.zero_le _, ?_⟩
  have hx : (mkS r).extract 0 m = mkS (r.take (k + 1)) := by rw [mkS_take, hmt]
  have hd : (mkS r).extract m (mkS r).size = mkS (r.drop (k + 1)) := by rw [mkS_drop, hmd]
  have hLx : L[pre.length]? = some (mkS (r.take (k + 1))) := by
    rw [hpre, pieces_ne k hr, List.map_cons, List.getElem?_append_right (Nat.le_refl _), Nat.sub_self]
    rfl
  refine yield_ro (X := noF) (x := mkS (r.take (k + 1))) hY 0 1 rfl hJ hfo rfl hRo (by decide) (fun β => ⟨by rw [← hx]; rfl, rfl, hLx⟩) rfl (fun β w _ => ⟨trivial, fun k hk => hk.elim, fun k _ h => h.elim⟩) ?_ ?_
  · intro f2 hfo2 hJ2
    refine ⟨(mkS r).size, m, rfl, rfl, Nat.le_refl _, by omega, ?_⟩
    refine ⟨(r.drop (k + 1), pre ++ [mkS (r.take (k + 1))], f2), ⟨hJ2, ?_, by show (r.drop (k + 1)).length ≤ _; rw [List.length_drop]; omega⟩, by show (r.drop (k + 1)).length < r.length; rw [List.length_drop]; omega, ?_⟩
    · show L = (pre ++ [mkS (r.take (k + 1))]) ++ (piecesA k (r.drop (k + 1))).map mkS
      rw [hpre, pieces_ne k hr, List.map_cons, List.append_assoc]
      rfl
    · simp only [← hd]
      exact Ent.same ⟨rfl, rfl, rfl, trivial⟩ rfl
  · intro f2 hfo2 hJ2 β w' hs
    exact (hs.keepB (List.nil_sublist _)).fin [0] ⟨f2, _, rfl, .inr ⟨_, hJ2, rfl⟩⟩ rfl rfl rfl ⟨hfo2, trivial⟩
theorem groups_c (w : World) (s : ByteArray) (kk : Int) : Con Tryz.prog n_b64_Groups #[.string s, .int .i64 kk] w [] (fun v Fs => ∃ bs bk, v = .func (.func n_b64_Groups_1) #[] #[.pointer (some ⟨bs, 0, none⟩), .pointer (some ⟨bk, 0, none⟩)] ∧ Fs = [bkF bs ty_string [.string s], bkF bk ty_int [.int .i64 kk]]) := by
  refine con_of_sx (cx := cx_b64_Groups w (Un [])) (good_b64_Groups w (Un [])) b_b64_Groups rfl rfl (β := Va.z) [.c (.v (.string s)), .c (.v (.int .i64 kk))] 0 [] [] rfl rfl (Sat.start rfl) ?_
  intro β w' hs
  exact hs.ofBk.ofBk.fin [0, 1] ⟨β 0, β 1, rfl, rfl⟩
theorem pieces_at (k : Nat) : ∀ (j : Nat) (l : List UInt8) (x : List UInt8), (piecesA k l)[j]? = some x → x = (l.drop ((k + 1) * j)).take (k + 1) ∧ (k + 1) * j < l.length ∧ ((piecesA k l).take j).flatten = l.take ((k + 1) * j)
  | j, l, x, h => by
    by_cases hl : l = []
    · rw [hl, pieces_nil] at h; simp at h
    · have h0 : 0 < l.length := List.length_pos_iff.2 hl
      rw [pieces_ne k hl] at h ⊢
      cases j with
      | zero =>
        obtain rfl : l.take (k + 1) = x := by simpa using h
        exact ⟨by simp, by simpa using h0, by simp⟩
      | succ j =>
        have h' : (piecesA k (l.drop (k + 1)))[j]? = some x := by simpa using h
        obtain ⟨h1, h2, h3⟩ := pieces_at k j (l.drop (k + 1)) x h'
        rw [List.length_drop] at h2
        refine ⟨?_, by rw [Nat.mul_succ]; omega, ?_⟩
        · rw [h1, List.drop_drop, Nat.mul_succ, Nat.add_comm (k + 1)]
        · rw [List.take_succ_cons, List.flatten_cons, h3, Nat.mul_succ, Nat.add_comm ((k + 1) * j) (k + 1)]
          exact List.take_add.symm
theorem pieces_flat (k : Nat) : ∀ (m : Nat) (l : List UInt8), l.length ≤ m → (piecesA k l).flatten = l
  | 0, l, h => by
    obtain rfl : l = [] := List.length_eq_zero_iff.1 (by omega)
    rw [pieces_nil]; rfl
  | m + 1, l, h => by
    by_cases hl : l = []
    · rw [hl, pieces_nil]; rfl
    · have h0 : 0 < l.length := List.length_pos_iff.2 hl
      rw [pieces_ne k hl, List.flatten_cons, pieces_flat k m _ (by rw [List.length_drop]; omega), List.take_append_drop]
structure DcS where
  out : List UInt8
  A : Option Addr
  c : Nat
  e : Int
structure DcS.Ok (i : DcS) (url : Bool) (L : List ByteArray) (pre : List ByteArray) : Prop where
  eq : pre = L.take pre.length
  vs : ∃ vs, valsA url (pre.map (·.data.toList)).flatten = some vs ∧ ((i.e = 0 ∧ decG vs = some i.out) ∨ (i.e = 4 ∧ decG vs = none))
  len : i.out.length ≤ 3 * pre.length
theorem brow_cap {e : Nat} {c : Nat} {A : Option Addr} {l : List UInt8} {w : World} (h : (browF e A l c).p w) : l.length ≤ c := by
  rcases h.2 with ⟨_, h0⟩ | ⟨g, cap, cur, he, _, _, hnc, _⟩
  · omega
  · injection he with _ _ h3
    omega
def decOutP (l : Option (List UInt8)) (v : Value) (Fs : List Fact) : Prop := ∃ A l' c e, v = .tuple #[.slice A l'.length c, .int .i64 e] ∧ ((e = 0 ∧ l = some l') ∨ (e ≠ 0 ∧ l = none)) ∧ l'.length ≤ c ∧ Fs = [browF ty_uint8 A l' c]
theorem digA_lt {c : UInt8} {v : Nat} (h : digA c = some v) : v < 16 := by
  unfold digA at h
  split at h
  · injection h; omega
  · split at h
    · injection h; omega
    · cases h
theorem dig_ix (c : UInt8) : _root_.Go.Lib.indexByte [48, 49, 50, 51, 52, 53, 54, 55, 56, 57, 97, 98, 99, 100, 101, 102] c = match digA c with | some v => (v : Int) | none => -1 := by
  have h : ∀ n : _root_.Fin 256, _root_.Go.Lib.indexByte [48, 49, 50, 51, 52, 53, 54, 55, 56, 57, 97, 98, 99, 100, 101, 102] (UInt8.ofNat n.val) = match digA (UInt8.ofNat n.val) with | some v => (v : Int) | none => -1 := by decide +kernel
  have h1 := h ⟨c.toNat, c.toNat_lt⟩
  simpa using h1
def digV (c : UInt8) : Int := match digA c with | some v => (v : Int) | none => -1
theorem indexD_c (w : World) (c : UInt8) : Pu Tryz.prog n_strings_IndexByte #[.string ⟨#[48, 49, 50, 51, 52, 53, 54, 55, 56, 57, 97, 98, 99, 100, 101, 102]⟩, .int .u8 c.toNat] w (.int .i64 (digV c)) := by
  refine pu_of (Calls.mono (Tryz.strings_IndexByte ⟨#[48, 49, 50, 51, 52, 53, 54, 55, 56, 57, 97, 98, 99, 100, 101, 102]⟩ c.toNat w) ?_)
  rintro e w' ⟨rfl, rfl⟩
  refine ⟨_, rfl, ?_, Chg.refl _ _⟩
  unfold digV
  rw [← dig_ix]
  show Value.int .i64 (_root_.Go.Lib.indexByte _ ((c.toNat : Int).toNat.toUInt8)) = _
  rw [Int.toNat_natCast, show c.toNat.toUInt8 = c from UInt8.ofNat_toNat]
theorem or4_i64 {x y : Nat} (hx : x < 33554432) (hy : y < 16) : bits .or .i64 ((x * 16 : Nat) : Int) (y : Int) = ((x * 16 + y : Nat) : Int) := by
  show IntKind.i64.wrap (((BitVec.ofInt 64 ((x * 16 : Nat) : Int)) ||| (BitVec.ofInt 64 (y : Int))).toNat : Int) = _
  have h1 : (BitVec.ofInt 64 ((x * 16 : Nat) : Int)).toNat = x <<< 4 := by
    rw [BitVec.toNat_ofInt, Nat.shiftLeft_eq]
    omega
  have h2 : (BitVec.ofInt 64 (y : Int)).toNat = y := by
    rw [BitVec.toNat_ofInt]
    omega
  rw [BitVec.toNat_or, h1, h2, ← Nat.shiftLeft_add_eq_or_of_lt (by omega) x, Nat.shiftLeft_eq, wrap_i64 (by omega) (by omega)]
theorem unhexA_app : ∀ (a b : List UInt8), a.length % 2 = 0 → unhexA (a ++ b) = match unhexA a, unhexA b with | some x, some y => some (x ++ y) | _, _ => none
  | [], b, _ => by rw [List.nil_append]; cases h : unhexA b <;> simp [unhexA, h]
  | [_], b, h => by simp at h
  | x :: y :: r, b, h => by
    have h1 := unhexA_app r b (by simp only [List.length_cons] at h; omega)
    simp only [List.cons_append, unhexA, h1]
    cases digA x <;> cases digA y <;> cases unhexA r <;> cases unhexA b <;> simp
theorem unhexA_bad (b c : UInt8) : ∀ (a d : List UInt8), a.length % 2 = 0 → (digA b = none ∨ digA c = none) → unhexA (a ++ b :: c :: d) = none
  | [], d, _, h => by
    simp only [List.nil_append, unhexA]
    rcases h with h | h
    · rw [h]
    · rw [h]; cases digA b <;> rfl
  | [_], d, h, _ => by simp at h
  | x :: y :: r, d, h, hb => by
    have h1 := unhexA_bad b c r d (by simp only [List.length_cons] at h; omega) hb
    simp only [List.cons_append, unhexA, h1]
    cases digA x <;> cases digA y <;> rfl
theorem unhexA_odd : ∀ l : List UInt8, l.length % 2 = 1 → unhexA l = none
  | [], h => by simp at h
  | [_], _ => rfl
  | a :: b :: r, h => by
    simp only [unhexA, unhexA_odd r (by simp only [List.length_cons] at h; omega)]
    cases digA a <;> cases digA b <;> rfl
theorem Unhex_c (w : World) (s0 : List UInt8) (hL : s0.length ≤ 1000000) : Con Tryz.prog n_b64_Unhex #[.string (mkS s0)] w [] (decOutP (unhexA s0)) := by
  have g := good_b64_Unhex w (Un [])
  have hml := maxLen_eq
  have hsz := mkS_sz s0
  refine con_of_sx (cx := cx_b64_Unhex w (Un [])) g b_b64_Unhex rfl rfl (β := Va.z) [.c (.v (.string (mkS s0)))] 0 [] [] rfl rfl (Sat.start rfl) ?_
  refine ⟨by first | decide | omega, ?_⟩
  refine ⟨(((mkS s0).size % 2 : Nat) : Int), Int.ofNat_tmod _ _, ?_⟩
  refine BIf.not (BIf.dec (fun h0 => ?_) (fun h0 => ?_))
  · have h00 : (((mkS s0).size % 2 : Nat) : Int) = 0 := h0
    refine call_con [] (fun β w' hs => groups_c w' (mkS s0) 2) ?_
    rintro v Fs ⟨bs, bk, rfl, rfl⟩
    obtain ⟨L, hLd⟩ : ∃ L, (piecesA 1 s0).map mkS = L := ⟨_, rfl⟩
    have hLL : L.length ≤ 1000000 := by
      have h := pieces_len 1 _ s0 (Nat.le_refl _)
      rw [← hLd, List.length_map]
      omega
    refine range_rule (α := ByteArray) (ι := List UInt8 × Option Addr × Nat) (κ := Unit) g rfl (cv := [.pointer (some ⟨bs, 0, none⟩), .pointer (some ⟨bk, 0, none⟩)]) rfl (by kernel_rfl) 3 (Nat.le_refl 3)
      (fun pre i => pre = L.take pre.length ∧ unhexA (pre.map (·.data.toList)).flatten = some i.1 ∧ i.1.length ≤ pre.length) (fun i => [⟨2, ty_sl_uint8, [.v (.slice i.2.1 i.1.length i.2.2)]⟩, ⟨1, ty_api_Errno, [.v (.int .i64 0)]⟩, ⟨0, ty_sl_uint8, [.v (.slice none 0 0)]⟩]) (fun i => [browF ty_uint8 i.2.1 i.1 i.2.2]) (fun i => ⟨rfl, trivial⟩)
      (fun e pre _ => e = .ret ∧ unhexA s0 = none) (fun _ => [⟨1, ty_api_Errno, [.v (.int .i64 5)]⟩, ⟨0, ty_sl_uint8, [.v (.slice none 0 0)]⟩]) (fun _ => []) (fun _ => trivial)
      [bkF bs ty_string [.string (mkS s0)], bkF bk ty_int [.int .i64 2]] [] [] ⟨rfl, rfl, trivial⟩ (fun g h => by cases h) ([], none, 0) ⟨rfl, rfl, Nat.le_refl _⟩
      (fun β w hs => ⟨β, Agr.refl _ _, (hs.nilRow ty_uint8 1).perm [1, 2, 0]⟩) (insS L)
      (fun xs Fs' => xs = L ∧ Fs' = []) (fun _ Fs' => Fs' = [])
      (fun l w f0 R J Jx hJ0 hJo hRo hY hm => by
        have h := grp_it l w bs bk 1 s0 f0 R J Jx 2 rfl (by decide) (by omega) hJ0 hJo hRo (by rw [hLd]; exact hY) hm
        rw [hLd] at h
        exact h) ?_ ?_ ?_
    · rintro ⟨out, A, c⟩ pre x args X W S' lb bs' pn pn' hbs ⟨hpre, hun, hlen⟩ ⟨rfl, rfl, hx⟩
      obtain ⟨cs, hcs, rfl⟩ : ∃ cs, (piecesA 1 s0)[pre.length]? = some cs ∧ x = mkS cs := by
        rw [← hLd, List.getElem?_map] at hx
        obtain ⟨cs, h1, h2⟩ := Option.map_eq_some_iff.1 hx
        exact ⟨cs, h1, h2.symm⟩
      obtain ⟨p1, p2, p3⟩ := pieces_at 1 _ _ _ hcs
      have hpf : (pre.map (·.data.toList)).flatten = s0.take (2 * pre.length) := by
        conv => lhs; rw [hpre]
        rw [← hLd, ← List.map_take, List.map_map, show ((fun b : ByteArray => b.data.toList) ∘ mkS) = id from funext fun l => by simp [mkS], List.map_id]
        exact p3
      simp only at hun hlen
      have hun0 := hun
      rw [hpf] at hun
      have hcl : cs.length = 2 := by rw [p1, List.length_take, List.length_drop]; omega
      obtain ⟨ca, cb, rfl⟩ : ∃ a b, cs = [a, b] := by
        match cs, hcl with
        | [a, b], _ => exact ⟨a, b, rfl⟩
      have hdm : (mkS [ca, cb]).data.toList = [ca, cb] := by simp [mkS]
      have hcz : (mkS [ca, cb]).size = 2 := rfl
      have hs0 : s0 = s0.take (2 * pre.length) ++ ca :: cb :: (s0.drop (2 * pre.length)).drop 2 := by
        have h1 : [ca, cb] ++ (s0.drop (2 * pre.length)).drop 2 = s0.drop (2 * pre.length) := by
          rw [p1]; exact List.take_append_drop _ _
        have h2 := List.take_append_drop (2 * pre.length) s0
        rw [← h1] at h2
        exact h2.symm
      refine ⟨_, rfl, ?_⟩
      intro b1
      intro b2
      intro q1
      intro q2
      refine loop_rule (ι := Nat × Nat) 3 (fun j => [(2, .c (.p 0 0)), (3, .c (.p 1 0)), (4, .c (.p 2 0)), (6, .c (.v (.int .i64 (j.2 : Int)))), (18, .c (.v (.slice (some ⟨b1, 0, none⟩) (mkS [ca, cb]).size b2))), (19, .c (.v (.int .i64 ((mkS [ca, cb]).size : Int)))), (20, .c (.v (.int .i64 (j.1 : Int))))])
        (fun _ => [⟨2, ty_sl_uint8, [.v (.slice A out.length c)]⟩, ⟨1, ty_api_Errno, [.v (.int .i64 0)]⟩, ⟨0, ty_sl_uint8, [.v (.slice none 0 0)]⟩]) (fun _ => [rdoF 1 (some ⟨b1, 0, none⟩) (mkS [ca, cb]).size ((mkS [ca, cb]).data.toList.map byte), browF ty_uint8 A out c])
        (fun j => (j.1 = 0 ∧ j.2 = 0) ∨ (j.1 = 1 ∧ digA ca = some j.2) ∨ (j.1 = 2 ∧ ∃ x y, digA ca = some x ∧ digA cb = some y ∧ j.2 = x * 16 + y)) (fun j => 2 - j.1) (0, 0) (.inl ⟨rfl, rfl⟩) (Ent.mk' ⟨rfl, rfl, rfl, rfl, rfl, rfl, rfl, trivial⟩ rfl (fun β w' hs => hs.perm [0, 2])) (rcx_good g) ?_
      rintro ⟨j, N⟩ hj
      simp only at hj
      have hbad : digA ca = none ∨ digA cb = none → unhexA s0 = none := fun h => by
        rw [hs0]
        exact unhexA_bad ca cb _ _ (by rw [List.length_take]; omega) h
      refine BIf.dec (fun hlt => ?_) (fun hge => ?_)
      · have hlt0 : (j : Int) < ((mkS [ca, cb]).size : Int) := hlt
        obtain ⟨y, hy, hyb⟩ : ∃ y, [ca, cb][j]? = some y ∧ (j = 0 ∧ y = ca ∧ N = 0 ∨ j = 1 ∧ y = cb ∧ digA ca = some N) := by
          rcases hj with ⟨h1, h2⟩ | ⟨h1, h2⟩ | ⟨h1, _⟩
          · exact ⟨ca, by rw [h1]; rfl, .inl ⟨h1, rfl, h2⟩⟩
          · exact ⟨cb, by rw [h1]; rfl, .inr ⟨h1, rfl, h2⟩⟩
          · omega
        refine ⟨_, j, rfl, rfl, by omega, ?_⟩
        refine ⟨byte y, fun β w' hs => Rd.cell1 (show Rd 1 (some ⟨b1, 0, none⟩) (mkS [ca, cb]).size ((mkS [ca, cb]).data.toList.map byte) w' from hs.get 0 rfl) (by rw [hdm, List.getElem?_map, hy]; rfl), ?_⟩
        refine call_pu (fun β w' hs => indexD_c w' y) ?_
        unfold digV
        cases hdy : digA y with
        | none =>
          refine ⟨(), ⟨rfl, hbad ?_⟩, Ent.mk' trivial rfl (fun β w hs => ((hs.keepB (List.sublist_cons_self _ _)).perm []).lower)⟩
          rcases hyb with ⟨_, q, _⟩ | ⟨_, q, _⟩
          · exact .inl (by rw [← q]; exact hdy)
          · exact .inr (by rw [← q]; exact hdy)
        | some v =>
          have hv := digA_lt hdy
          have hN16 : N < 16 := by
            rcases hyb with ⟨_, _, q⟩ | ⟨_, _, q⟩
            · omega
            · exact digA_lt q
          refine ⟨by first | decide | omega, ((N * 16 : Nat) : Int), ?_, ?_⟩
          · rw [show min (4 : Int).toNat IntKind.i64.bits = 4 from rfl, wrap_i64 (by omega) (by omega)]; omega
          refine ⟨((N * 16 + v : Nat) : Int), or4_i64 (by omega) hv, ?_⟩
          refine ⟨((j + 1 : Nat) : Int), by rw [wrap_i64 (by omega) (by omega)]; rfl, ?_⟩
          refine ⟨(j + 1, N * 16 + v), ?_, by show 2 - (j + 1) < 2 - j; omega, Ent.same ⟨rfl, rfl, rfl, rfl, rfl, rfl, rfl, trivial⟩ rfl⟩
          rcases hyb with ⟨q1, q2, q3⟩ | ⟨q1, q2, q3⟩
          · exact .inr (.inl ⟨by show j + 1 = 1; omega, by show digA ca = some (N * 16 + v); rw [← q2, hdy, q3, Nat.zero_mul, Nat.zero_add]⟩)
          · exact .inr (.inr ⟨by show j + 1 = 2; omega, N, v, q3, by rw [← q2]; exact hdy, rfl⟩)
      · have hge0 : ¬ (j : Int) < ((mkS [ca, cb]).size : Int) := hge
        obtain ⟨x, y, hx1, hy1, hN⟩ : ∃ x y, digA ca = some x ∧ digA cb = some y ∧ N = x * 16 + y := by
          rcases hj with ⟨h1, h2⟩ | ⟨h1, h2⟩ | ⟨h1, h⟩
          · omega
          · omega
          · exact h
        have hN8 : N < 256 := by
          have h1 := digA_lt hx1
          have h2 := digA_lt hy1
          omega
        refine ⟨((u8n N).toNat : Int), wrap_u8n _, ?_⟩
        intro b3
        obtain ⟨l2, hl2⟩ : ∃ l2, l2 = out ++ [u8n N] := ⟨_, rfl⟩
        have hl2l : out.length + 1 = l2.length := by rw [hl2, List.length_append]; rfl
        have hpl : pre.length < L.length := by
          rcases Nat.lt_or_ge pre.length L.length with h | h
          · exact h
          · rw [List.getElem?_eq_none h] at hx; cases hx
        refine ⟨2, out.length, l2.length, _, [u8n N].map byte, l2.map byte, rfl, fun β w' hs => row_rd (hs.get 0 rfl), bytes_one _, hl2l, by rw [hl2, List.map_append], by rw [maxLen_eq]; omega, by show l2.length * 1 ≤ _; omega, ?_⟩
        intro A2 c2 r1 r2 r3
        refine ⟨(l2, A2, c2), ⟨?_, ?_, ?_⟩, Ent.mk' trivial rfl (fun β w' hs => hs.perm [2])⟩
        · show pre ++ [mkS [ca, cb]] = L.take (pre ++ [mkS [ca, cb]]).length
          rw [List.length_append, List.length_singleton, List.take_add_one, hx, ← hpre]
          rfl
        · show unhexA ((pre ++ [mkS [ca, cb]]).map (·.data.toList)).flatten = some l2
          rw [List.map_append, List.map_singleton, hdm, List.flatten_append, unhexA_app _ _ (by rw [hpf, List.length_take]; omega), hun0, hl2]
          simp [unhexA, hx1, hy1, hN]
        · show l2.length ≤ (pre ++ [mkS [ca, cb]]).length
          rw [List.length_append, List.length_singleton]
          omega
    · rintro xs ⟨out, A, c⟩ Fs ⟨hpre, hun, hlen⟩ ⟨rfl, rfl⟩
      have hfl : (xs.map (·.data.toList)).flatten = s0 := by
        rw [← hLd, List.map_map, show ((fun b : ByteArray => b.data.toList) ∘ mkS) = id from funext fun l => by simp [mkS], List.map_id, pieces_flat 1 _ _ (Nat.le_refl _)]
      rw [hfl] at hun
      intro β w' hs
      have hcap : out.length ≤ c := brow_cap (show (browF ty_uint8 A out c).p w' from hs.get 0 rfl)
      exact (hs.keepB (List.nil_sublist _)).fin [0] ⟨A, out, c, 0, rfl, .inl ⟨rfl, hun⟩, hcap, rfl⟩
    · rintro e pre ⟨⟩ Fs ⟨rfl, hno⟩ rfl
      intro β w' hs
      exact ((hs.keepB (List.nil_sublist _)).nilRow ty_uint8 1).fin [0] ⟨none, [], 0, 5, rfl, .inr ⟨by decide, hno⟩, Nat.le_refl _, rfl⟩
  · have h00 : ¬ (((mkS s0).size % 2 : Nat) : Int) = 0 := h0
    intro β w' hs
    exact ((hs.keepB (List.nil_sublist _)).nilRow ty_uint8 1).fin [0] ⟨none, [], 0, 2, rfl, .inr ⟨by decide, unhexA_odd s0 (by omega)⟩, Nat.le_refl _, rfl⟩
theorem or128 (n : Nat) : bits .or .u8 (((UInt8.ofNat n).toNat : Nat) : Int) 128 = ((UInt8.ofNat (n % 128 + 128)).toNat : Int) := by
  show IntKind.u8.wrap (((BitVec.ofInt 8 ((UInt8.ofNat n).toNat : Int)) ||| (BitVec.ofInt 8 128)).toNat : Int) = _
  have h1 : BitVec.ofInt 8 (((UInt8.ofNat n).toNat : Nat) : Int) = BitVec.ofNat 8 n := by
    apply BitVec.eq_of_toNat_eq
    rw [BitVec.toNat_ofInt, BitVec.toNat_ofNat, UInt8.toNat_ofNat']
    omega
  have h2 : BitVec.ofNat 8 n ||| BitVec.ofInt 8 128 = BitVec.ofNat 8 (n % 128 + 128) := by
    have h3 : BitVec.ofNat 8 n = BitVec.ofNat 8 (n % 256) := by
      apply BitVec.eq_of_toNat_eq
      rw [BitVec.toNat_ofNat, BitVec.toNat_ofNat]
      omega
    have h4 : n % 128 = n % 256 % 128 := by omega
    rw [h3, h4]
    have h5 : n % 256 < 256 := Nat.mod_lt _ (by omega)
    have key : ∀ k, k < 256 → BitVec.ofNat 8 k ||| BitVec.ofInt 8 128 = BitVec.ofNat 8 (k % 128 + 128) := by decide +kernel
    exact key _ h5
  rw [h1, h2, BitVec.toNat_ofNat, wrap_u8, UInt8.toNat_ofNat']
  omega
theorem vint_len : ∀ (k n : Nat), n < 128 ^ (k + 1) → (Bx.vint n).length ≤ k + 1
  | 0, n, h => by rw [Bx.vint_lt (by simpa using h)]; simp
  | k + 1, n, h => by
    by_cases hn : n < 128
    · rw [Bx.vint_lt hn]; simp
    · rw [Bx.vint_ge hn, List.length_cons]
      have := vint_len k (n / 128) (by rw [Nat.pow_succ] at h; omega)
      omega
theorem vint_nine {n : Nat} (h : n < 4611686018427387904) : (Bx.vint n).length ≤ 9 := vint_len 8 n (by omega)
def varF (b : Nat) (A : Option Addr) (l : List UInt8) (c : Nat) : List Fact := [bkF b ty_sl_uint8 [.slice A l.length c], browF ty_uint8 A l c]
structure LgS where
  n : Nat
  A : Option Addr
  l : List UInt8
  c : Nat
theorem long7_c (w : World) (b n : Nat) (A : Option Addr) (l : List UInt8) (c : Nat) (hn : n < 4611686018427387904) (hl : l.length ≤ 1000000000) (hm : Mem w (varF b A l c)) :
    Con Tryz.prog n_box_Term_print_1 #[.int .i64 n, .pointer (some ⟨b, 0, none⟩)] w (varF b A l c) fun v Fs => v = .tuple #[] ∧ ∃ A' c', Fs = varF b A' (l ++ Bx.vint n) c' := by
  have g := good_box_Term_print_1 w (Un (varF b A l c))
  refine con_of_sx (cx := cx_box_Term_print_1 w (Un (varF b A l c))) g b_box_Term_print_1 rfl rfl (β := Va.z) [.c (.v (.int .i64 n)), .c (.v (.pointer (some ⟨b, 0, none⟩)))] 0 [] _ rfl rfl (hm.sat0 rfl (fun f hf _ k hk => ⟨f, hf, hk⟩)) ?_
  refine loop_rule (ι := LgS) 0 (fun i => [(0, .c (.v (.int .i64 i.n))), (1, .c (.v (.pointer (some ⟨b, 0, none⟩))))]) (fun _ => []) (fun i => varF b i.A i.l i.c)
    (fun i => i.n < 4611686018427387904 ∧ i.l ++ Bx.vint i.n = l ++ Bx.vint n) (fun i => i.n) ⟨n, A, l, c⟩ ⟨hn, rfl⟩ (Ent.same ⟨rfl, rfl, trivial⟩ rfl) g ?_
  rintro ⟨m, A1, l1, c1⟩ ⟨hm1, he⟩
  simp only at hm1 he
  have hl1 : l1.length ≤ 1000000009 := by
    have h1 := congrArg List.length he
    simp only [List.length_append] at h1
    have h2 := vint_nine hn
    omega
  have hcell : ∀ (w' : World) (A : Option Addr) (l : List UInt8) (c : Nat), (bkF b ty_sl_uint8 [.slice A l.length c]).p w' → w'.cell? ⟨b, 0, none⟩ = some (.slice A l.length c) := fun w' A l c h => by
    have hb : w'.heap[b]? = some (.cells #[.slice A l.length c] ty_sl_uint8 (0, 0)) := h
    rw [cell_of_row w' b 0 _ _ _ hb]; rfl
  refine BIf.dec (fun hge => ?_) (fun hlt => ?_)
  · have hge0 : (128 : Int) ≤ (m : Int) := hge
    have hnl : ¬ m < 128 := by omega
    refine ⟨.slice A1 l1.length c1, fun β w' hs => hcell _ _ _ _ (hs.get 0 rfl), ?_⟩
    refine ⟨_, wrap_u8b m, _, or128 m, ?_⟩
    intro b2
    refine ⟨2, l1.length, l1.length + 1, l1.map byte, [byte (UInt8.ofNat (m % 128 + 128))], (l1 ++ [UInt8.ofNat (m % 128 + 128)]).map byte, rfl, fun β w' hs => row_rd (hs.get 0 rfl), bytes_one [UInt8.ofNat (m % 128 + 128)], rfl, by simp, by rw [maxLen_eq]; omega, by show (l1.length + 1) * 1 ≤ _; omega, ?_⟩
    intro A' c' h1 h2 h3
    refine ⟨_, fun β w' hs => hs.bkSet 1 (o := 0) (us := [.slice A' (l1.length + 1) c']) rfl (Nat.le_refl 1) (fun u hu => by obtain rfl := List.mem_singleton.1 hu; rfl), ?_⟩
    refine ⟨by decide, ((m / 128 : Nat) : Int), shr_nat m 7, ?_⟩
    refine ⟨⟨m / 128, A', l1 ++ [UInt8.ofNat (m % 128 + 128)], c'⟩, ⟨by show m / 128 < _; omega, ?_⟩, by show m / 128 < m; omega, ?_⟩
    · show l1 ++ [UInt8.ofNat (m % 128 + 128)] ++ Bx.vint (m / 128) = _
      rw [← he, Bx.vint_ge hnl]
      simp
    · refine Ent.mk' ⟨rfl, rfl, trivial⟩ rfl ?_
      intro β w' hs
      have e : (l1 ++ [UInt8.ofNat (m % 128 + 128)]).length = l1.length + 1 := by simp
      have hs2 := hs.perm [1, 2]
      show Sat _ _ _ _ (varF b A' (l1 ++ [UInt8.ofNat (m % 128 + 128)]) c') _
      unfold varF browF
      rw [e]
      exact hs2
  · have hlt0 : ¬ (128 : Int) ≤ (m : Int) := hlt
    have hl : m < 128 := by omega
    refine ⟨.slice A1 l1.length c1, fun β w' hs => hcell _ _ _ _ (hs.get 0 rfl), ?_⟩
    refine ⟨_, wrap_u8b m, ?_⟩
    intro b2
    refine ⟨2, l1.length, l1.length + 1, l1.map byte, [byte (UInt8.ofNat m)], (l1 ++ [UInt8.ofNat m]).map byte, rfl, fun β w' hs => row_rd (hs.get 0 rfl), bytes_one [UInt8.ofNat m], rfl, by simp, by rw [maxLen_eq]; omega, by show (l1.length + 1) * 1 ≤ _; omega, ?_⟩
    intro A' c' h1 h2 h3
    refine ⟨_, fun β w' hs => hs.bkSet 1 (o := 0) (us := [.slice A' (l1.length + 1) c']) rfl (Nat.le_refl 1) (fun u hu => by obtain rfl := List.mem_singleton.1 hu; rfl), ?_⟩
    intro β w' hs
    have e0 : l ++ Bx.vint n = l1 ++ [UInt8.ofNat m] := by rw [← he, Bx.vint_lt hl]
    have e : (l1 ++ [UInt8.ofNat m]).length = l1.length + 1 := by simp
    refine hs.fin [1, 2] ⟨rfl, A', c', ?_⟩
    rw [e0]
    unfold varF browF
    rw [e]
    rfl
end Go.Proofs.YteenjgfbbkdlhaaGreatDoor.Sx

namespace Go.Proofs.YteenjgfbbkdlhaaGreatDoor.Sx
open Go Sha
attribute [local irreducible] Calls
theorem chg_of {w w' : World} (h : RowKit.Below w.heap.size w w') : Chg None_ w w' := ⟨h.os, h.tape, h.output, h.size, fun k hk _ => h.block k hk⟩
def joinB (xs : List ByteArray) (sep : ByteArray) : ByteArray := ⟨(Lib.join (xs.map (·.data.toList)) sep.data.toList).toArray⟩
theorem join_c (w : World) (b c : Nat) (xs : List ByteArray) (sep : ByteArray) (hP : Rd 1 (some ⟨b, 0, none⟩) xs.length (xs.map Value.string) w) (hb : b < w.heap.size) (hN : xs.length ≤ 1000) (hcap : xs.length ≤ c) (hlen : (Lib.join (xs.map (·.data.toList)) sep.data.toList).length ≤ 140737488355328) :
    Pu Tryz.prog n_strings_Join #[.slice (some ⟨b, 0, none⟩) xs.length c, .string sep] w (.string (joinB xs sep)) := by
  refine pu_of (Calls.mono (Tryz.strings_Join b 0 c xs sep w (fun j x hx => ?_) hb (by omega) hcap hlen) ?_)
  · have hj : j < xs.length := (List.getElem?_eq_some_iff.1 hx).1
    obtain ⟨ad, h1, h2⟩ := hP.2 (by omega)
    obtain rfl := Option.some.inj h1
    have := h2 j (.string x) (by rw [List.getElem?_map, hx]; rfl)
    rw [add_none] at this
    exact this
  · rintro e w' ⟨rfl, hw⟩
    exact ⟨_, rfl, rfl, chg_of hw⟩
end Go.Proofs.YteenjgfbbkdlhaaGreatDoor.Sx

namespace Go.Proofs.YteenjgfbbkdlhaaGreatDoor.Sx
open Go
attribute [local irreducible] Calls
theorem Bs.holds {w : World} {A : Option Addr} {l : List UInt8} (h : Bs w A l) (c : Nat) : Lib.HoldsBytes w (.slice A l.length c) l := by
  refine ⟨A, c, rfl, fun q => ?_, fun a q i x hx => ?_⟩
  · subst q
    rcases Nat.eq_zero_or_pos l.length with h0 | h0
    · exact List.eq_nil_of_length_eq_zero h0
    · obtain ⟨ad, q, _⟩ := h.2 h0; cases q
  · have hi : i < l.length := (List.getElem?_eq_some_iff.1 hx).1
    obtain ⟨ad, q2, hc⟩ := h.2 (by omega)
    rw [q] at q2
    obtain rfl := Option.some.inj q2
    exact hc i (byte x) (by simp [hx])
theorem join_nil (ls : List (List UInt8)) : Lib.join ls [] = ls.flatten := by
  simp [Lib.join, List.intercalate]
  induction ls with
  | nil => rfl
  | cons a r ih =>
    cases r with
    | nil => simp
    | cons b r => simp [ih]
theorem lens_flat (ls : List (List UInt8)) : Lib.lens ls = ls.flatten.length := by
  simp [Lib.lens, List.length_flatten]
def readOut (l : List UInt8) (v : Value) (Fs : List Fact) : Prop := ∃ A c, v = .slice A l.length c ∧ l.length ≤ c ∧ c ≤ maxLen ∧ Fs = [rdoF 1 A l.length (l.map byte)]
theorem fin_read {w w' : World} {A : Option Addr} {l : List UInt8} {c : Nat} (hr : Bs w' A l) (hc : Chg None_ w w') (hD : ∀ k, (bsF A l).D k → w.heap.size ≤ k) (h1 : l.length ≤ c) (h2 : c ≤ maxLen) : Fin w [] (readOut l) (.slice A l.length c) w' := by
  refine ⟨[rdoF 1 A l.length (l.map byte)], ⟨A, c, rfl, h1, h2, rfl⟩, by rw [Un.nil]; exact hc, ⟨fun g hg => ?_, fun g hg k hk => ?_, List.pairwise_singleton _ _⟩, ⟨rfl, trivial⟩, fun g hg k hk => ?_⟩
  · obtain rfl := List.mem_singleton.1 hg; exact hr
  · obtain rfl := List.mem_singleton.1 hg; exact rd_lt hr k hk
  · obtain rfl := List.mem_singleton.1 hg; exact .inr (hD k hk)
theorem fresh_fin {w w' : World} {v : Value} {l : List UInt8} (hf : Lib.FreshBytes w.heap.size w' v l) (hb : RowKit.Below w.heap.size w w') : Fin w [] (readOut l) v w' := by
  obtain ⟨g, cap, zs, rfl, hg, h1, h2, hz, hz2, hbo, hc, _⟩ := hf
  refine fin_read ?_ (chg_of hb) ?_ h1 h2
  · refine ⟨by simp, fun hp => ⟨_, rfl, fun j u hu => ?_⟩⟩
    rw [List.getElem?_map] at hu
    obtain ⟨x, hx, rfl⟩ := Option.map_eq_some_iff.1 hu
    have hj : j < l.length := (List.getElem?_eq_some_iff.1 hx).1
    rw [add_none, Nat.zero_add, hc j (by omega)]
    have hj2 : j < zs.length := by omega
    have h3 : (Lib.bytesOf (zs.take l.length))[j]? = some x := by rw [hbo]; exact hx
    rw [Lib.bytesOf, List.getElem?_map, List.getElem?_take, if_pos hj, List.getElem?_eq_getElem hj2] at h3
    have h4 : UInt8.ofNat zs[j].toNat = x := by simpa using h3
    have h5 : zs.getD j 0 = zs[j] := by simp [hj2]
    have h6 := hz2 zs[j] (List.getElem_mem hj2)
    have h7 : (x.toNat : Int) = zs[j] := by
      rw [← h4, UInt8.toNat_ofNat']
      omega
    rw [h5, ← h7]
    rfl
  · rintro k ⟨_, ad, q, rfl⟩
    obtain rfl := Option.some.inj q
    exact hg
theorem joinN_c (w : World) (b c : Nat) (vs : List Value) (ls : List (List UInt8)) (hP : Rd 1 (some ⟨b, 0, none⟩) ls.length vs w) (hH : ∀ (i : Nat) v l, vs[i]? = some v → ls[i]? = some l → Lib.HoldsBytes w v l) (h2 : 2 ≤ ls.length) (hcap : ls.length ≤ c) (hn : ls.length ≤ 1000) (hlen : ls.flatten.length ≤ 140737488355328) :
    Con Tryz.prog n_bytes_Join #[.slice (some ⟨b, 0, none⟩) ls.length c, .slice none 0 0] w [] (readOut ls.flatten) := by
  refine con_of_calls (Calls.mono (Tryz.bytes_Join_many b 0 ls.length c vs ls (.slice none 0 0) [] w rfl h2 ⟨by have := hP.1; omega, fun i v hv => ?_, hH⟩ hcap ⟨none, 0, rfl, fun _ => rfl, fun a q => by cases q⟩ (by omega) (by rw [lens_flat]; simpa using hlen)) ?_)
  · obtain ⟨ad, q, hc⟩ := hP.2 (by omega)
    obtain rfl := Option.some.inj q
    exact hc i v hv
  · rintro e w' ⟨v, rfl, hf, hb⟩
    rw [join_nil] at hf
    exact ⟨v, rfl, fresh_fin hf hb⟩
structure TA where
  k : Option Addr
  t : Option Addr
  l : Option Addr
  m : Option Addr
  kc : Nat
  tc : Nat
  lc : Nat
  mc : Nat
def ints (l : List Nat) : List Value := l.map fun (n : Nat) => Value.int .i64 (n : Int)
def termV (t : Bx.Term) (a : TA) : List Value := [.int .i64 t.kind, .slice a.k t.key.length a.kc, .slice a.t t.text.length a.tc, .int .i64 t.rounds, .slice a.l t.list.length a.lc, .slice a.m t.mask.length a.mc]
def termS (t : Bx.Term) (a : TA) : List SL := [.v (.int .i64 t.kind), .v (.slice a.k t.key.length a.kc), .v (.slice a.t t.text.length a.tc), .v (.int .i64 t.rounds), .v (.slice a.l t.list.length a.lc), .v (.slice a.m t.mask.length a.mc)]
structure TRd (t : Bx.Term) (a : TA) (w : World) : Prop where
  hk : Bs w a.k t.key
  ht : Bs w a.t t.text
  hl : Rd 1 a.l t.list.length (ints t.list) w
  hm : Bs w a.m t.mask
theorem TRd.old {t : Bx.Term} {a : TA} {W w : World} (h : TRd t a W) (ho : (oldF W).p w) : TRd t a w := ⟨Rd.old h.hk ho, Rd.old h.ht ho, Rd.old h.hl ho, Rd.old h.hm ho⟩
structure TSz (t : Bx.Term) : Prop where
  kind : t.kind < 1000
  rounds : t.rounds < 1000
  key : t.key.length ≤ 1000000
  text : t.text.length ≤ 1000000
  list : t.list.length ≤ 10000
  nums : ∀ n ∈ t.list, n < 1000000
  mask : t.mask.length ≤ 1000000
theorem vints_len : ∀ (l : List Nat), (∀ n ∈ l, n < 4611686018427387904) → (l.flatMap Bx.vint).length ≤ 9 * l.length
  | [], _ => by simp
  | a :: r, h => by
    have h1 := vint_nine (h a List.mem_cons_self)
    have h2 := vints_len r (fun n hn => h n (List.mem_cons_of_mem _ hn))
    rw [List.flatMap_cons, List.length_append, List.length_cons]
    omega
theorem flat_take {l : List Nat} {k x : Nat} (h : l[k]? = some x) : (l.take (k + 1)).flatMap Bx.vint = (l.take k).flatMap Bx.vint ++ Bx.vint x := by
  obtain ⟨hk, rfl⟩ := List.getElem?_eq_some_iff.1 h
  rw [List.take_succ_eq_append_getElem hk, List.flatMap_append, List.flatMap_singleton]
theorem ints_at {l : List Nat} {k x : Nat} (h : l[k]? = some x) : (ints l)[k]? = some (.int .i64 (x : Int)) := by
  simp [ints, h]
structure PrS where
  k : Nat
  A : Option Addr
  c : Nat
def heads5 (t : Bx.Term) : List Nat := [t.kind, t.rounds, t.key.length, t.text.length, t.list.length]
theorem print_c (w : World) (t : Bx.Term) (a : TA) (hr : TRd t a w) (hs : TSz t) : Pu Tryz.prog n_box_Term_print #[.agg (termV t a).toArray] w (.string ⟨(Bx.print t).toArray⟩) := by
  have g := good_box_Term_print w (Un [])
  have h5 : ∀ n ∈ heads5 t, n < 4611686018427387904 := by
    have := hs.kind; have := hs.rounds; have := hs.key; have := hs.text; have := hs.list
    intro n hn
    simp only [heads5, List.mem_cons, List.not_mem_nil, or_false] at hn
    rcases hn with rfl | rfl | rfl | rfl | rfl <;> omega
  have h6 : ∀ n ∈ t.list, n < 4611686018427387904 := fun n hn => by have := hs.nums n hn; omega
  refine con_of_sx (cx := cx_box_Term_print w (Un [])) g b_box_Term_print rfl rfl (β := Va.z) [.agg (termS t a)] 0 [] [oldF w] rfl rfl (old_sat rfl) ?_
  intro b5
  refine reify_rule g 1 (fun _ => [.slice none 0 0]) rfl rfl (fun _ => rfl) (fun b => ?_)
  refine loop_rule (ι := PrS) 2 (fun i => [(23, .c (.v (.slice (some ⟨b5, 0, none⟩) 5 5))), (24, .c (.v (.int .i64 5))), (25, .c (.v (.int .i64 i.k))), (1, .c (.p 0 0)), (3, .c (.v (.pointer (some ⟨b, 0, none⟩)))), (4, .fn (.func n_box_Term_print_1) [] [.v (.pointer (some ⟨b, 0, none⟩))])]) (fun _ => [⟨0, ty_box_Term, termS t a⟩])
    (fun i => varF b i.A (((heads5 t).take i.k).flatMap Bx.vint) i.c ++ [rowF ty_int 1 (.slice (some ⟨b5, 0, none⟩) 5 5) 5 (ints (heads5 t)), oldF w])
    (fun i => i.k ≤ 5) (fun i => 5 - i.k) ⟨0, none, 0⟩ (Nat.zero_le _) (Ent.mk' ⟨rfl, rfl, rfl, rfl, rfl, rfl, trivial⟩ rfl ?_) g ?_
  · intro β w' hs
    exact (hs.nilRow ty_uint8 1).perm [1, 0, 2, 3]
  rintro ⟨k, A1, c1⟩ hk
  simp only at hk
  have hb1 : (((heads5 t).take k).flatMap Bx.vint).length ≤ 45 := by
    have := vints_len ((heads5 t).take k) (fun n hn => h5 n (List.take_subset _ _ hn))
    have h7 : ((heads5 t).take k).length ≤ 5 := by rw [List.length_take]; show min k 5 ≤ 5; omega
    omega
  refine BIf.dec (fun hlt => ?_) (fun hge => ?_)
  · have hlt0 : (k : Int) < 5 := hlt
    have hkl : k < (heads5 t).length := by show k < 5; omega
    obtain ⟨x, hx, hxm⟩ := at_lt hkl
    have hu := ints_at hx
    refine ⟨⟨b5, 0, none⟩, k, rfl, rfl, by omega, _, fun β w' hs => Rd.cell1 (row_rd (hs.get 2 rfl)) hu, ?_⟩
    refine call_con [0, 1] (fun β w' hs => long7_c w' b x A1 (((heads5 t).take k).flatMap Bx.vint) c1 (h5 _ hxm) (by omega) (hs.mem.take (js := [0, 1]) rfl)) ?_
    rintro v Fs ⟨rfl, A2, c2, rfl⟩
    refine ⟨((k + 1 : Nat) : Int), by rw [wrap_i64 (by omega) (by omega)]; rfl, ?_⟩
    refine ⟨⟨k + 1, A2, c2⟩, by show k + 1 ≤ 5; omega, by show 5 - (k + 1) < 5 - k; omega, Ent.mk' ⟨rfl, rfl, rfl, rfl, rfl, rfl, trivial⟩ rfl ?_⟩
    intro β w' hs
    show Sat _ _ _ _ (varF b A2 (((heads5 t).take (k + 1)).flatMap Bx.vint) c2 ++ _) _
    rw [flat_take hx]
    exact hs
  have hge0 : ¬ (k : Int) < 5 := hge
  have hke : k = 5 := by omega
  subst hke
  have hpre : ((heads5 t).take 5).flatMap Bx.vint = (heads5 t).flatMap Bx.vint := rfl
  rw [hpre] at hb1
  refine loop_rule (ι := PrS) 2 (fun i => [(34, .c (.v (.slice a.l t.list.length a.lc))), (35, .c (.v (.int .i64 t.list.length))), (36, .c (.v (.int .i64 i.k))), (1, .c (.p 0 0)), (3, .c (.v (.pointer (some ⟨b, 0, none⟩)))), (4, .fn (.func n_box_Term_print_1) [] [.v (.pointer (some ⟨b, 0, none⟩))])]) (fun _ => [⟨0, ty_box_Term, termS t a⟩])
    (fun i => varF b i.A ((heads5 t).flatMap Bx.vint ++ (t.list.take i.k).flatMap Bx.vint) i.c ++ [oldF w])
    (fun i => i.k ≤ t.list.length) (fun i => t.list.length - i.k) ⟨0, A1, c1⟩ (Nat.zero_le _) (Ent.mk' ⟨rfl, rfl, rfl, rfl, rfl, rfl, trivial⟩ rfl ?_) g ?_
  · intro β w' hs
    have e : (heads5 t).flatMap Bx.vint ++ (t.list.take 0).flatMap Bx.vint = (heads5 t).flatMap Bx.vint := by simp
    show Sat _ _ _ _ (varF b A1 ((heads5 t).flatMap Bx.vint ++ (t.list.take 0).flatMap Bx.vint) c1 ++ _) _
    rw [e]
    exact hs.perm [0, 1, 3]
  rintro ⟨k, A2, c2⟩ hk
  simp only at hk
  have hll := hs.list
  have hb2 : ((heads5 t).flatMap Bx.vint ++ (t.list.take k).flatMap Bx.vint).length ≤ 100000 := by
    have := vints_len (t.list.take k) (fun n hn => h6 n (List.take_subset _ _ hn))
    have h7 : (t.list.take k).length ≤ t.list.length := by simp; omega
    rw [List.length_append]
    omega
  refine BIf.dec (fun hlt => ?_) (fun hge => ?_)
  · have hlt0 : (k : Int) < t.list.length := hlt
    have hkl : k < t.list.length := by omega
    obtain ⟨x, hx, hxm⟩ := at_lt hkl
    have hu := ints_at hx
    obtain ⟨ad, hA, hc⟩ := hr.hl.2 (by omega)
    have hr2 := hr.hl
    rw [hA] at hr2
    refine ⟨ad, k, hA, rfl, hkl, _, fun β w' hs => Rd.cell1 (Rd.old hr2 (hs.get 2 rfl)) hu, ?_⟩
    refine call_con [0, 1] (fun β w' hs => long7_c w' b x A2 ((heads5 t).flatMap Bx.vint ++ (t.list.take k).flatMap Bx.vint) c2 (h6 _ hxm) (by omega) (hs.mem.take (js := [0, 1]) rfl)) ?_
    rintro v Fs ⟨rfl, A3, c3, rfl⟩
    refine ⟨((k + 1 : Nat) : Int), by rw [wrap_i64 (by omega) (by omega)]; rfl, ?_⟩
    refine ⟨⟨k + 1, A3, c3⟩, by show k + 1 ≤ t.list.length; omega, by show t.list.length - (k + 1) < t.list.length - k; omega, Ent.mk' ⟨rfl, rfl, rfl, rfl, rfl, rfl, trivial⟩ rfl ?_⟩
    intro β w' hs
    show Sat _ _ _ _ (varF b A3 ((heads5 t).flatMap Bx.vint ++ (t.list.take (k + 1)).flatMap Bx.vint) c3 ++ _) _
    rw [flat_take hx, ← List.append_assoc]
    exact hs
  have hge0 : ¬ (k : Int) < t.list.length := hge
  have hke : k = t.list.length := by omega
  subst hke
  have hpre2 : (heads5 t).flatMap Bx.vint ++ (t.list.take t.list.length).flatMap Bx.vint = (heads5 t).flatMap Bx.vint ++ t.list.flatMap Bx.vint := by rw [List.take_length]
  rw [hpre2] at hb2
  rw [hpre2]
  generalize hq : (heads5 t).flatMap Bx.vint ++ t.list.flatMap Bx.vint = q at hb2 ⊢
  have hcell : ∀ (w' : World) (A : Option Addr) (l : List UInt8) (c : Nat), (bkF b ty_sl_uint8 [.slice A l.length c]).p w' → w'.cell? ⟨b, 0, none⟩ = some (.slice A l.length c) := fun w' A l c h => by
    have hb : w'.heap[b]? = some (.cells #[.slice A l.length c] ty_sl_uint8 (0, 0)) := h
    rw [cell_of_row w' b 0 _ _ _ hb]; rfl
  refine ⟨.slice A2 q.length c2, fun β w' hs => hcell _ _ _ _ (hs.get 0 rfl), ?_⟩
  intro b6
  have hkey := hs.key
  have htext := hs.text
  have hmask := hs.mask
  have hfl : [q, t.key, t.text, t.mask].flatten = Bx.print t := by
    rw [Bx.print, ← hq]
    simp [heads5]
  refine call_con [] (R := readOut (Bx.print t)) (fun β w' hs => by
    have h := joinN_c w' b6 4 [.slice A2 q.length c2, .slice a.k t.key.length a.kc, .slice a.t t.text.length a.tc, .slice a.m t.mask.length a.mc] [q, t.key, t.text, t.mask] (row_rd (hs.get 0 rfl)) (fun i v l hv hl => by
      match i, hv, hl with
      | 0, hv, hl => obtain rfl := Option.some.inj hv; obtain rfl := Option.some.inj hl; exact Bs.holds (row_rd (hs.get 2 rfl)) _
      | 1, hv, hl => obtain rfl := Option.some.inj hv; obtain rfl := Option.some.inj hl; exact Bs.holds (Rd.old hr.hk (hs.get 3 rfl)) _
      | 2, hv, hl => obtain rfl := Option.some.inj hv; obtain rfl := Option.some.inj hl; exact Bs.holds (Rd.old hr.ht (hs.get 3 rfl)) _
      | 3, hv, hl => obtain rfl := Option.some.inj hv; obtain rfl := Option.some.inj hl; exact Bs.holds (Rd.old hr.hm (hs.get 3 rfl)) _
      | n + 4, hv, hl => cases hv) (by show 2 ≤ 4; decide) (Nat.le_refl 4) (by show 4 ≤ 1000; decide) (by simp; omega)
    rw [hfl] at h
    exact h) ?_
  rintro v Fs ⟨A, c, rfl, h1, h2, rfl⟩
  refine ⟨Bx.print t, fun β w hs => hs.get 0 rfl, ?_⟩
  intro β w' hs
  exact hs.fin [] ⟨rfl, rfl⟩
theorem ints_one (l : List Nat) : ∀ u ∈ ints l, u.oneCell' = true := by
  intro u hu
  obtain ⟨x, _, rfl⟩ := List.mem_map.1 hu
  rfl
abbrev irowF (A : Option Addr) (l : List Nat) (c : Nat) : Fact := rowF ty_int 1 (.slice A l.length c) l.length (ints l)
theorem cloneI_c (w : World) (A : Option Addr) (l : List Nat) (c : Nat) (hr : Rd 1 A l.length (ints l) w) (hn : l.length ≤ 10000000000000) :
    Con Tryz.prog 199 #[.slice A l.length c] w [] fun v Fs => ∃ A' c', v = .slice A' l.length c' ∧ l.length ≤ c' ∧ c' ≤ maxLen ∧ Fs = [irowF A' l c'] := by
  refine con_of_sx (cx := cx_slices_Clone_int_int w (Un [])) (good_slices_Clone_int_int w (Un [])) b_slices_Clone_int_int rfl rfl (β := Va.z) [.c (.v (.slice A l.length c))] 0 [] [rdF 1 A l.length (ints l)] rfl rfl ((Sat.start rfl).rd (fun _ h => by cases h) hr) ?_
  refine BIf.mk (fun h => ?_) (fun h => ?_)
  · intro β w' hs
    have hA : A = none := by simpa using h
    subst hA
    have hl : l = [] := by
      cases l with
      | nil => rfl
      | cons x r => obtain ⟨ad, q, _⟩ := hr.2 (by simp); cases q
    subst hl
    exact (hs.nilRow ty_int 1).fin [0] ⟨none, 0, rfl, Nat.le_refl _, Nat.zero_le _, rfl⟩
  intro b
  refine ⟨0, 0, l.length, [], ints l, _, rfl, fun β w hs => hs.get 1 rfl, ints_one l, Nat.zero_add _, rfl, by rw [maxLen_eq]; omega, by show l.length * 8 ≤ _; omega, ?_⟩
  intro A' c' h1 h2 h3 β w' hs
  exact hs.fin [0] ⟨A', c', rfl, h1, h2, rfl⟩
def copyFs (t : Bx.Term) (a : TA) : List Fact := [browF ty_uint8 a.m t.mask a.mc, irowF a.l t.list a.lc, browF ty_uint8 a.t t.text a.tc, browF ty_uint8 a.k t.key a.kc]
theorem copyOf_c (w : World) (t : Bx.Term) (a : TA) (hr : TRd t a w) (hs : TSz t) :
    Con Tryz.prog n_box_copyOf #[.agg (termV t a).toArray] w [] fun v Fs => ∃ a', v = .agg (termV t a').toArray ∧ Fs = copyFs t a' := by
  have g := good_box_copyOf w (Un [])
  have hkey := hs.key
  have htext := hs.text
  have hmask := hs.mask
  have hlist := hs.list
  refine con_of_sx (cx := cx_box_copyOf w (Un [])) g b_box_copyOf rfl rfl (β := Va.z) [.agg (termS t a)] 0 [] [oldF w] rfl rfl (old_sat rfl) ?_
  have hS : ∀ {n : Nat} {F : List Fact}, Sub (cx_box_copyOf w (Un [])) n [⟨1, ty_box_Term, ti219.zero.map SL.v⟩, ⟨0, ty_box_Term, termS t a⟩] F [⟨0, ty_box_Term, termS t a⟩] [] := fun {n F} => Sub.of (List.sublist_cons_self _ _) (List.nil_sublist _)
  refine draw_rule g p_box_copyOf_1 (by kernel_rfl) [⟨0, ty_box_Term, termS t a⟩] [] hS ?_
  refine call_con [] (fun β w' hs => clone_c w' a.k t.key a.kc (Rd.old hr.hk (hs.get 0 rfl)) (by omega)) ?_
  rintro v Fs ⟨A1, c1, rfl, _, _, rfl⟩
  refine ⟨hS, ?_⟩
  refine call_con [] (fun β w' hs => clone_c w' a.t t.text a.tc (Rd.old hr.ht (hs.get 1 rfl)) (by omega)) ?_
  rintro v Fs ⟨A2, c2, rfl, _, _, rfl⟩
  refine ⟨hS, ?_⟩
  refine call_con [] (fun β w' hs => cloneI_c w' a.l t.list a.lc (Rd.old hr.hl (hs.get 2 rfl)) (by omega)) ?_
  rintro v Fs ⟨A3, c3, rfl, _, _, rfl⟩
  refine ⟨hS, ?_⟩
  refine call_con [] (fun β w' hs => clone_c w' a.m t.mask a.mc (Rd.old hr.hm (hs.get 3 rfl)) (by omega)) ?_
  rintro v Fs ⟨A4, c4, rfl, _, _, rfl⟩
  refine ⟨hS, ?_⟩
  intro β w' hs
  exact (hs.keepB (List.nil_sublist _)).fin [0, 1, 2, 3] ⟨⟨A1, A2, A3, A4, c1, c2, c3, c4⟩, rfl, rfl⟩ rfl rfl rfl ⟨rfl, rfl, rfl, rfl, trivial⟩
def sortN (l : List Nat) : List Nat := l.mergeSort (fun x y => decide (x ≤ y))
theorem sortN_len (l : List Nat) : (sortN l).length = l.length := by simp [sortN]
def str (l : List UInt8) : ByteArray := ⟨l.toArray⟩
theorem str_inj {l m : List UInt8} : str l = str m ↔ l = m := by
  constructor
  · intro h
    have := congrArg (fun s : ByteArray => s.data.toList) h
    simpa [str] using this
  · rintro rfl; rfl
def numV (n : Nat) : Value := .int .i64 (n : Int)
def mapL : List Bx.Term → Nat → ML
  | [], _ => []
  | t :: r, k => (str (Bx.print t), numV (k + 1)) :: mapL r (k + 1)
theorem mapL_look (t : Bx.Term) : ∀ (L : List Bx.Term) (k : Nat), mlook (mapL L k) (str (Bx.print t)) = (Bx.place t L).map fun i => numV (i + k + 1)
  | [], _ => rfl
  | x :: r, k => by
    simp only [mapL, mlook, Bx.place]
    by_cases h : x = t
    · subst h
      simp
    · have h' : ¬ str (Bx.print x) = str (Bx.print t) := fun q => h (Bx.print_inj (str_inj.1 q))
      rw [if_neg h', if_neg h, mapL_look t r (k + 1), Option.map_map]
      congr 1
      funext i
      simp only [Function.comp]
      rw [show i + (k + 1) + 1 = i + 1 + k + 1 by omega]
theorem mput_new : ∀ {l : ML} {s : ByteArray} {v : Value}, mlook l s = none → mput l s v = l ++ [(s, v)]
  | [], _, _, _ => rfl
  | (k, u) :: r, s, v, h => by
    simp only [mlook] at h
    split at h
    · cases h
    · rename_i hne
      simp only [mput, if_neg hne, List.cons_append]
      rw [mput_new h]
theorem mapL_snoc (t : Bx.Term) : ∀ (L : List Bx.Term) (k : Nat), mapL (L ++ [t]) k = mapL L k ++ [(str (Bx.print t), numV (L.length + k + 1))]
  | [], k => by simp [mapL]
  | x :: r, k => by
    simp only [List.cons_append, mapL, List.length_cons]
    rw [mapL_snoc t r (k + 1), show r.length + (k + 1) + 1 = r.length + 1 + k + 1 by omega]
def TD_ (t : Bx.Term) (a : TA) (k : Nat) : Prop := (bsF a.k t.key).D k ∨ (bsF a.t t.text).D k ∨ (rdF 1 a.l t.list.length (ints t.list)).D k ∨ (bsF a.m t.mask).D k
theorem TRd.st {t : Bx.Term} {a : TA} {w w' : World} (hs : ∀ k, TD_ t a k → w'.heap[k]? = w.heap[k]?) (h : TRd t a w) : TRd t a w' :=
  ⟨(bsF a.k t.key).st w w' (fun k hk => hs k (.inl hk)) h.hk, (bsF a.t t.text).st w w' (fun k hk => hs k (.inr (.inl hk))) h.ht, (rdF 1 a.l t.list.length (ints t.list)).st w w' (fun k hk => hs k (.inr (.inr (.inl hk)))) h.hl, (bsF a.m t.mask).st w w' (fun k hk => hs k (.inr (.inr (.inr hk)))) h.hm⟩
def trdF (t : Bx.Term) (a : TA) : Fact where
  own := false
  D := TD_ t a
  p := TRd t a
  st := fun w w' hs h => TRd.st hs h
def partsF (ts : List (Bx.Term × TA)) : Fact where
  own := true
  D := fun k => ∃ p ∈ ts, TD_ p.1 p.2 k
  p := fun w => ∀ p ∈ ts, TRd p.1 p.2 w
  st := fun w w' hs h p hp => TRd.st (fun k hk => hs k ⟨p, hp, hk⟩) (h p hp)
structure Lay where
  A : Option Addr
  c : Nat
  m : Nat
  ts : List (Bx.Term × TA)
def boxCells (B : Bx.Box) (y : Lay) : List Value := [.bool B.sym, .bool B.full, .slice y.A B.L.length y.c, .map (some y.m)]
def termsV (ts : List (Bx.Term × TA)) : List Value := ts.flatMap fun p => termV p.1 p.2
def bxFs (b : Nat) (B : Bx.Box) (y : Lay) : List Fact := [bkF b ty_box_Box (boxCells B y), rowF ty_box_Term 6 (.slice y.A B.L.length y.c) B.L.length (termsV y.ts), mapF y.m (mapL B.L 0), partsF y.ts]
def bxF (b : Nat) (B : Bx.Box) (y : Lay) : Fact := sepF (bxFs b B y)
theorem box_cell {b : Nat} {B : Bx.Box} {y : Lay} {w : World} (h : (bkF b ty_box_Box (boxCells B y)).p w) {o : Nat} {v : Value} (ho : (boxCells B y)[o]? = some v) : w.cell? ⟨b, o, none⟩ = some v := by
  have hb : w.heap[b]? = some (.cells (boxCells B y).toArray ty_box_Box (0, 0)) := h
  rw [cell_of_row w b o _ _ _ hb]
  simpa using ho
theorem bk_cell {b ty : Nat} {cs : List Value} {w : World} (h : (bkF b ty cs).p w) {o : Nat} {v : Value} (ho : cs[o]? = some v) : w.cell? ⟨b, o, none⟩ = some v := by
  have hb : w.heap[b]? = some (.cells cs.toArray ty (0, 0)) := h
  rw [cell_of_row w b o _ _ _ hb]
  simpa using ho
theorem termV_one (t : Bx.Term) (a : TA) : ∀ u ∈ termV t a, u.oneCell' = true := by
  intro u hu
  simp only [termV, List.mem_cons, List.not_mem_nil, or_false] at hu
  rcases hu with rfl | rfl | rfl | rfl | rfl | rfl <;> rfl
theorem one_mem {v : Value} (h : v.oneCell' = true) : ∀ u ∈ [v], u.oneCell' = true := fun u hu => by obtain rfl := List.mem_singleton.1 hu; exact h
def tagOut (b : Nat) (B : Bx.Box) (t : Bx.Term) (v : Value) (Fs : List Fact) : Prop :=
  ∃ A c y', v = .slice A 32 c ∧ 32 ≤ c ∧ c ≤ maxLen ∧ y'.ts.map (·.1) = (B.tag t).2.L ∧ Fs = [browF ty_uint8 A (B.tag t).1 c, bxF b (B.tag t).2 y']
theorem zero_int (w : World) : (zeroValue ty_int).run Tryz.prog w = .ok (.int .i64 0) w := by kernel_rfl
theorem tag_c (w : World) (b : Nat) (B : Bx.Box) (y : Lay) (t : Bx.Term) (a : TA) (hts : y.ts.map (·.1) = B.L) (hL : B.L.length ≤ 4096) (hs : TSz t) (hm : Mem w [bxF b B y, trdF t a]) :
    Con Tryz.prog n_box_Box_tag #[.pointer (some ⟨b, 0, none⟩), .agg (termV t a).toArray] w [bxF b B y] (tagOut b B t) := by
  have g := good_box_Box_tag w (Un [bxF b B y])
  have hs0 : Sat (cx_box_Box_tag w (Un [bxF b B y])) Va.z 0 [] [bxF b B y, trdF t a] w := hm.sat0 rfl (fun f hf ho k hk => by
    simp only [List.mem_cons, List.not_mem_nil, or_false] at hf
    rcases hf with rfl | rfl
    · exact ⟨_, List.mem_singleton.2 rfl, hk⟩
    · cases ho)
  have hs1 := hs0.unsep 0 rfl
  refine con_of_sx (cx := cx_box_Box_tag w (Un [bxF b B y])) g b_box_Box_tag rfl rfl (β := Va.z) [.c (.v (.pointer (some ⟨b, 0, none⟩))), .agg (termS t a)] 0 [] (bxFs b B y ++ [trdF t a]) rfl rfl hs1 ?_
  refine call_pu (fun β w' hs' => print_c w' t a (hs'.get 4 rfl) hs) ?_
  refine ⟨.map (some y.m), fun β w' hs' => box_cell (hs'.get 0 rfl) (o := 3) rfl, ?_⟩
  have hlook := mapL_look t B.L 0
  cases hpl : Bx.place t B.L with
  | some i =>
    rw [hpl] at hlook
    refine ⟨.int .i64 0, zero_int, mapL B.L 0, some (numV (i + 1)), fun β w' hs' => hs'.get 2 rfl, hlook, ?_⟩
    refine call_con [] (fun β w' hs' => handle_c w' (i + 1)) ?_
    rintro v Fs ⟨A1, c1, rfl, q1, q2, rfl⟩
    have htag : B.tag t = (Bx.handle (i + 1), B) := by unfold Bx.Box.tag; rw [hpl]
    intro β w' hs'
    have hs2 := (hs'.keepB (List.nil_sublist _)).sep [1, 2, 3, 4] rfl ⟨rfl, rfl, rfl, rfl, trivial⟩
    exact hs2.fin [1, 0] ⟨A1, c1, y, rfl, q1, q2, by rw [htag]; exact hts, by rw [htag]; rfl⟩
  | none =>
    rw [hpl] at hlook
    refine ⟨.int .i64 0, zero_int, mapL B.L 0, none, fun β w' hs' => hs'.get 2 rfl, hlook, ?_⟩
    refine ⟨.slice y.A B.L.length y.c, fun β w' hs' => box_cell (hs'.get 0 rfl) (o := 2) rfl, ?_⟩
    refine BIf.dec (fun hge => ?_) (fun hlt => ?_)
    · have hge0 : (4096 : Int) ≤ (B.L.length : Int) := hge
      have hge1 : 4096 ≤ B.L.length := by omega
      refine ⟨_, fun β w' hs' => hs'.bkSet 0 (o := 1) (us := [.bool true]) rfl (by show 2 ≤ 4; decide) (one_mem rfl), ?_⟩
      refine ⟨32, 32, rfl, rfl, Nat.le_refl _, by decide, by decide, ?_⟩
      intro b2
      have htag : B.tag t = (Bx.noughts, { B with full := true }) := by unfold Bx.Box.tag; rw [hpl]; simp only; rw [if_pos hge1]
      intro β w' hs'
      have hs2 := (hs'.keepB (List.nil_sublist _)).sep [1, 2, 3, 4] rfl ⟨rfl, rfl, rfl, rfl, trivial⟩
      exact hs2.fin [1, 0] ⟨some ⟨b2, 0, none⟩, 32, y, rfl, Nat.le_refl _, by decide, by rw [htag]; exact hts, by rw [htag]; rfl⟩
    · have hlt0 : ¬ (4096 : Int) ≤ (B.L.length : Int) := hlt
      have hlt1 : ¬ 4096 ≤ B.L.length := by omega
      have htag : B.tag t = (Bx.handle (B.L.length + 1), { B with L := B.L ++ [t] }) := by unfold Bx.Box.tag; rw [hpl]; simp only; rw [if_neg hlt1]
      refine draw_rule g p_box_Box_tag_8 (by kernel_rfl) [⟨0, ty_box_Term, termS t a⟩] [bkF b ty_box_Box (boxCells B y)] (subPerm [0]) ?_
      refine ⟨.slice y.A B.L.length y.c, fun β w' hs' => box_cell (hs'.get 0 rfl) (o := 2) rfl, ?_⟩
      refine call_con [] (fun β w' hs' => copyOf_c w' t a (hs'.get 4 rfl) hs) ?_
      rintro v Fs ⟨a', rfl, rfl⟩
      refine ⟨subPerm [4], ?_⟩
      intro b7
      refine ⟨subPerm [5], ?_⟩
      refine ⟨6, B.L.length, B.L.length + 1, termsV y.ts, termV t a', termsV (y.ts ++ [(t, a')]), rfl, fun β w' hs' => row_rd (hs'.get 0 rfl), termV_one t a', rfl, by simp [termsV], by rw [maxLen_eq]; omega, by show (B.L.length + 1) * 112 ≤ _; omega, ?_⟩
      intro A' c' q1 q2 q3
      refine ⟨subPerm [5], ?_⟩
      refine ⟨subPerm [5], ?_⟩
      refine ⟨_, fun β w' hs' => hs'.bkSet 5 (o := 2) (us := [.slice A' (B.L.length + 1) c']) rfl (by show 3 ≤ 4; decide) (one_mem rfl), ?_⟩
      have hbx : putAll (boxCells B y) 2 [.slice A' (B.L.length + 1) c'] = [.bool B.sym, .bool B.full, .slice A' (B.L.length + 1) c', .map (some y.m)] := rfl
      rw [hbx]
      refine draw_rule g p_box_Box_tag_9 (by kernel_rfl) [⟨0, ty_box_Term, termS t a⟩] [bkF b ty_box_Box [.bool B.sym, .bool B.full, .slice A' (B.L.length + 1) c', .map (some y.m)]] (subPerm [5]) ?_
      refine ⟨.map (some y.m), fun β w' hs' => bk_cell (hs'.get 0 rfl) (o := 3) rfl, ?_⟩
      refine ⟨.slice A' (B.L.length + 1) c', fun β w' hs' => bk_cell (hs'.get 0 rfl) (o := 2) rfl, ?_⟩
      refine ⟨_, fun _ => _, fun β w' hs' => hs'.mapPutY g 7 rfl (t := ty_map_string_int) (str (Bx.print t)) (numV (B.L.length + 1)), fun _ => ?_⟩
      refine ⟨subPerm [5], ?_⟩
      refine ⟨.slice A' (B.L.length + 1) c', fun β w' hs' => bk_cell (hs'.get 5 rfl) (o := 2) rfl, ?_⟩
      refine call_con [] (fun β w' hs' => handle_c w' (B.L.length + 1)) ?_
      rintro v Fs ⟨A9, c9, rfl, r1, r2, rfl⟩
      have hmap : mput (mapL B.L 0) (str (Bx.print t)) (numV (B.L.length + 1)) = mapL (B.L ++ [t]) 0 := by rw [mput_new hlook, mapL_snoc]
      have hbF : bxF b { B with L := B.L ++ [t] } ⟨A', c', y.m, y.ts ++ [(t, a')]⟩ = sepF [bkF b ty_box_Box [.bool B.sym, .bool B.full, .slice A' (B.L.length + 1) c', .map (some y.m)], rowF ty_box_Term 6 (.slice A' (B.L.length + 1) c') (B.L.length + 1) (termsV (y.ts ++ [(t, a')])), mapF y.m (mapL (B.L ++ [t]) 0), partsF (y.ts ++ [(t, a')])] := by
        simp [bxF, bxFs, boxCells]
      intro β w' hs'
      have hs2 := (hs'.keepB (List.nil_sublist _)).fuse [2, 3, 4, 5, 9] (partsF (y.ts ++ [(t, a')])) (fun w hm => ?_) (fun k hk => ?_) rfl ⟨rfl, rfl, rfl, rfl, rfl, trivial⟩
      · have hs3 := hs2.sep [3, 4, 5, 0] rfl ⟨rfl, rfl, rfl, rfl, trivial⟩
        refine hs3.fin [1, 0] ⟨A9, c9, ⟨A', c', y.m, y.ts ++ [(t, a')]⟩, rfl, r1, r2, ?_, ?_⟩
        · rw [htag]
          show (y.ts ++ [(t, a')]).map (·.1) = B.L ++ [t]
          rw [List.map_append, hts]
          rfl
        · rw [htag]
          show _ = [browF ty_uint8 A9 (Bx.handle (B.L.length + 1)) c9, bxF b { B with L := B.L ++ [t] } ⟨A', c', y.m, y.ts ++ [(t, a')]⟩]
          rw [hbF, ← hmap]
          rfl
      · have hm' : Mem w [browF ty_uint8 a'.m t.mask a'.mc, irowF a'.l t.list a'.lc, browF ty_uint8 a'.t t.text a'.tc, browF ty_uint8 a'.k t.key a'.kc, partsF y.ts] := hm
        intro p hp
        rcases List.mem_append.1 hp with hp | hp
        · exact hm'.fact (partsF y.ts) (by simp) p hp
        · obtain rfl := List.mem_singleton.1 hp
          exact ⟨row_rd (hm'.fact (browF ty_uint8 a'.k t.key a'.kc) (by simp)), row_rd (hm'.fact (browF ty_uint8 a'.t t.text a'.tc) (by simp)), row_rd (hm'.fact (irowF a'.l t.list a'.lc) (by simp)), row_rd (hm'.fact (browF ty_uint8 a'.m t.mask a'.mc) (by simp))⟩
      · show Un [browF ty_uint8 a'.m t.mask a'.mc, irowF a'.l t.list a'.lc, browF ty_uint8 a'.t t.text a'.tc, browF ty_uint8 a'.k t.key a'.kc, partsF y.ts] k
        obtain ⟨p, hp, hk⟩ := hk
        rcases List.mem_append.1 hp with hp | hp
        · exact ⟨partsF y.ts, by simp, p, hp, hk⟩
        · obtain rfl := List.mem_singleton.1 hp
          have hrow : ∀ {size e n c : Nat} {A : Option Addr} {xs : List Value}, (rdF size A n xs).D k → (rowF e size (.slice A n c) n xs).D k := by
            rintro size e n c A xs ⟨_, ad, rfl, rfl⟩
            rfl
          rcases hk with hk | hk | hk | hk
          · exact ⟨browF ty_uint8 a'.k t.key a'.kc, by simp, hrow hk⟩
          · exact ⟨browF ty_uint8 a'.t t.text a'.tc, by simp, hrow hk⟩
          · exact ⟨irowF a'.l t.list a'.lc, by simp, hrow hk⟩
          · exact ⟨browF ty_uint8 a'.m t.mask a'.mc, by simp, hrow hk⟩
theorem bx_bk {b : Nat} {B : Bx.Box} {y : Lay} {w : World} (h : (bxF b B y).p w) : (bkF b ty_box_Box (boxCells B y)).p w := h.1 _ (by simp [bxFs])
def hashT (l : List UInt8) : Bx.Term := ⟨1, [], l, 0, [], []⟩
theorem hashT_sz {l : List UInt8} (hl : l.length ≤ 1000000) : TSz (hashT l) := ⟨by show 1 < 1000; decide, by show 0 < 1000; decide, Nat.zero_le _, hl, Nat.zero_le _, fun _ h => (by cases h), Nat.zero_le _⟩
theorem rd_nil (w : World) (A : Option Addr) : Rd 1 A 0 [] w := ⟨rfl, fun h => by cases h⟩
theorem xorB_len (a b : List UInt8) : (Bx.xorB a b).length = min a.length b.length := by simp [Bx.xorB]
theorem xorB_snoc (a b : List UInt8) {i : Nat} (ha : i < a.length) (hb : i < b.length) : (Bx.xorB a b).take (i + 1) = (Bx.xorB a b).take i ++ [a[i] ^^^ b[i]] := by
  have h : i < (Bx.xorB a b).length := by rw [xorB_len]; omega
  rw [take_snoc _ i h]
  congr 1
  simp [Bx.xorB]
theorem xor_c (w : World) (A B : Option Addr) (l m : List UInt8) (c d : Nat) (hl : Bs w A l) (hm : Bs w B m) (hn : l.length ≤ 70368744177664) :
    Con Tryz.prog n_hmac_Xor #[.slice A l.length c, .slice B m.length d] w [] fun v Fs => ∃ A' c', v = .slice A' (Bx.xorB l m).length c' ∧ (Bx.xorB l m).length ≤ c' ∧ c' ≤ maxLen ∧ Fs = [browF ty_uint8 A' (Bx.xorB l m) c'] := by
  have g := good_hmac_Xor w (Un [])
  refine con_of_sx (cx := cx_hmac_Xor w (Un [])) g b_hmac_Xor rfl rfl (β := Va.z) [.c (.v (.slice A l.length c)), .c (.v (.slice B m.length d))] 0 [] [browF ty_uint8 none [] 0, oldF w] rfl rfl ((old_sat rfl).nilRow _ _) ?_
  have hx := xorB_len l m
  obtain ⟨r, hr⟩ : ∃ r, (Bx.xorB l m).length = r := ⟨_, rfl⟩
  refine ⟨(r : Int), ?_, ?_⟩
  · show min (l.length : Int) (m.length : Int) = _
    omega
  refine loop_rule (ι := Nat × Option Addr × Nat) 0 (fun i => [(0, .c (.v (.slice A l.length c))), (1, .c (.v (.slice B m.length d))), (11, .c (.v (.int .i64 r))), (12, .c (.v (.int .i64 i.1))), (5, .c (.v (.slice i.2.1 i.1 i.2.2)))]) (fun _ => [])
    (fun i => [rowF ty_uint8 1 (.slice i.2.1 i.1 i.2.2) i.1 (((Bx.xorB l m).take i.1).map byte), oldF w])
    (fun i => i.1 ≤ r ∧ i.1 ≤ i.2.2 ∧ i.2.2 ≤ maxLen) (fun i => r - i.1) (0, none, 0) ⟨Nat.zero_le _, Nat.zero_le _, Nat.zero_le _⟩ (Ent.same ⟨rfl, rfl, rfl, rfl, rfl, trivial⟩ rfl) g ?_
  rintro ⟨i, A1, c1⟩ ⟨hi, hc, hcm⟩
  simp only at hi hc hcm
  refine BIf.dec (fun hlt => ?_) (fun hge => ?_)
  · have hlt0 : (i : Int) < (r : Int) := hlt
    have h1 : i < l.length := by omega
    have h2 : i < m.length := by omega
    obtain ⟨ad, hA⟩ := Bs.addr hl (by omega)
    obtain ⟨bd, hB⟩ := Bs.addr hm (by omega)
    have hSS : ∀ {n : Nat} {H : List Bk} {f1 : Fact}, Sub (cx_hmac_Xor w (Un [])) n H [f1, oldF w] [] [oldF w] := fun {n H f1} => Sub.of (List.nil_sublist _) (List.sublist_cons_self _ _)
    have hSS2 : ∀ {n : Nat} {H : List Bk} {f1 f2 : Fact}, Sub (cx_hmac_Xor w (Un [])) n H [f1, f2, oldF w] [] [oldF w] := fun {n H f1 f2} => Sub.of (List.nil_sublist _) ((List.sublist_cons_self _ _).trans (List.sublist_cons_self _ _))
    refine draw_rule g p_hmac_Xor_5 (by kernel_rfl) [] [oldF w] hSS ?_
    refine ⟨ad, i, hA, rfl, h1, byte l[i], fun β w' hs => Bs.cell (Rd.old hl (hs.get 0 rfl)) hA h1, ?_⟩
    refine ⟨bd, i, hB, rfl, h2, byte m[i], fun β w' hs => Bs.cell (Rd.old hm (hs.get 0 rfl)) hB h2, ?_⟩
    refine ⟨_, xor8 _ _, ?_⟩
    intro b2
    refine ⟨hSS2, ?_⟩
    refine ⟨1, i, i + 1, ((Bx.xorB l m).take i).map byte, [l[i] ^^^ m[i]].map byte, _, rfl, fun β w hs => row_rd (hs.get 0 rfl), bytes_one _, rfl, rfl, by rw [maxLen_eq]; omega, by show (i + 1) * 1 ≤ _; omega, ?_⟩
    intro A' c' q1 q2 _
    refine ⟨hSS2, ?_⟩
    refine ⟨((i + 1 : Nat) : Int), by rw [wrap_i64 (by omega) (by omega)]; rfl, ?_⟩
    refine ⟨(i + 1, A', c'), ⟨by show i + 1 ≤ r; omega, q1, q2⟩, by show r - (i + 1) < r - i; omega, Ent.mk' ⟨rfl, rfl, rfl, rfl, rfl, trivial⟩ rfl (fun β w' hs => ?_)⟩
    have h3 := hs.weaken (List.Sublist.refl _) (List.sublist_cons_self _ _)
    show Sat _ _ _ _ [rowF ty_uint8 1 (.slice A' (i + 1) c') (i + 1) (((Bx.xorB l m).take (i + 1)).map byte), oldF w] _
    rw [xorB_snoc l m h1 h2, List.map_append]
    exact h3
  · have hge0 : ¬ (i : Int) < (r : Int) := hge
    obtain rfl : i = r := by omega
    intro β w' hs
    refine hs.fin [0] ⟨A1, c1, by rw [hr]; rfl, by rw [hr]; exact hc, hcm, ?_⟩
    show [rowF ty_uint8 1 (.slice A1 i c1) i _] = [rowF ty_uint8 1 (.slice A1 (Bx.xorB l m).length c1) (Bx.xorB l m).length _]
    rw [hr, List.take_of_length_le (by omega)]
def notIn (l m : List Nat) : List Nat := l.filter fun x => !decide (x ∈ m)
structure OkS (l : List Nat) (m : List UInt8) : Prop where
  len : l.length ≤ 4096
  nums : ∀ n ∈ l, n ≤ 4096
  mask : m.length = 32
def mixL (l1 l2 : List Nat) : List Nat := sortN (notIn l1 l2 ++ notIn l2 l1)
def turnT (L : List Nat) (M : List UInt8) : Bx.Term := ⟨4, [], [], 0, L, M⟩
end Go.Proofs.YteenjgfbbkdlhaaGreatDoor.Sx

namespace Go.Proofs.YteenjgfbbkdlhaaGreatDoor.Sx
open Go
def tA : Bx.Term := hashT [97]
def tB : Bx.Term := hashT [98]
def tC : Bx.Term := turnT [1, 2] Bx.noughts
def B1 : Bx.Box := ⟨true, false, [tA]⟩
def B2 : Bx.Box := ⟨true, false, [tA, tB]⟩
def B3 : Bx.Box := ⟨true, false, [tA, tB, tC]⟩
theorem opens_h {B : Bx.Box} {n : Nat} {t : Bx.Term} (hs : B.sym = true) (hn : n < 4294967296) (h0 : 1 ≤ n) (hl : n ≤ B.L.length) (ht : B.L[n - 1]? = some t) : B.opens (Bx.handle n) = if t.kind = 4 then some (t.list, t.mask) else some ([n], Bx.noughts) :=
  Bx.opens_in (Bx.handle_len n) hs (List.take_left' Bx.front_len) (by rw [show (Bx.handle n).drop 28 = Bx.be4 n from List.drop_left' Bx.front_len, Bx.num_be4 hn]) (by omega) ht
end Go.Proofs.YteenjgfbbkdlhaaGreatDoor.Sx

namespace Go.Proofs.YteenjgfbbkdlhaaGreatDoor.Sx
open Go
attribute [local irreducible] Calls
theorem newX_c (w : World) (sym : Bool) : Con Tryz.prog n_box_New #[.bool sym] w [] fun v Fs => ∃ b y, v = .pointer (some ⟨b, 0, none⟩) ∧ y.ts = [] ∧ Fs = [bxF b ⟨sym, false, []⟩ y] := by
  refine con_of_sx (cx := cx_box_New w (Un [])) (good_box_New w (Un [])) b_box_New rfl rfl (β := Va.z) [.c (.v (.bool sym))] 0 [] [] rfl rfl (Sat.start rfl) ?_
  intro m
  intro β w' hs
  have h2 := (hs.ofBk.nilRow ty_box_Term 6).noMem (partsF []) (fun _ h => (by cases h)) (fun k hk => by obtain ⟨p, hp, _⟩ := hk; cases hp)
  exact (h2.sep [2, 1, 3, 0] rfl ⟨rfl, rfl, rfl, rfl, trivial⟩).fin [0] ⟨_, ⟨none, 0, m, []⟩, rfl, rfl, rfl⟩
def hit (t : List UInt8) (i : Nat) : Option Nat := match Bx.looks ((t.drop i).take 32) with
  | some n => if 0 < n then some n else none
  | none => none
end Go.Proofs.YteenjgfbbkdlhaaGreatDoor.Sx

namespace Go.Proofs.YteenjgfbbkdlhaaGreatDoor.Sx
open Go
open Go.ChangeMaps (setBlock)
variable {kk : IntKind}
def itIP (kk : IntKind) (b r : Nat) (l ss : MLI) (cur : Option (Int × Value)) (w : World) : Prop :=
  ∃ (es ds : List MEI) (k since c0 : Nat) (seen : Array Nat), w.heap[b]? = some (.map (es.map (MEI.ent kk)).toArray k) ∧ MapIOk es k l ∧ w.heap[r]? = some (.mapIter (some b) since seen c0) ∧ r ≠ b ∧ (∀ e ∈ es, e.2.2 < since) ∧ since ≤ c0 ∧ since ≤ k ∧
    ds.map MEI.cut = ss ∧ seen.toList = ds.map (·.2.2) ∧ (∀ d ∈ ds, d ∈ es) ∧ (ds.map (·.2.2)).Nodup ∧
    ∀ x, cur = some x → ∃ (d : MEI) (s0 : Array Nat), d ∈ es ∧ d.cut = x ∧ seen = s0.push d.2.2 ∧ c0 = k
def itIF (kk : IntKind) (b r : Nat) (l ss : MLI) (cur : Option (Int × Value)) : Fact where
  own := true
  D := fun g => g = b ∨ g = r
  p := itIP kk b r l ss cur
  st := fun w w' hs ⟨es, ds, k, since, c0, seen, h1, h2, h3, h4⟩ => ⟨es, ds, k, since, c0, seen, by rw [hs b (.inl rfl)]; exact h1, h2, by rw [hs r (.inr rfl)]; exact h3, h4⟩
theorem born_inj {es : List MEI} {k : Nat} {l : MLI} (h : MapIOk es k l) {d e : MEI} (hd : d ∈ es) (he : e ∈ es) (q : d.2.2 = e.2.2) : d = e := by
  have hp := List.pairwise_map.1 h.inc
  clear h
  induction es with
  | nil => cases hd
  | cons a r ih =>
    obtain ⟨h1, h2⟩ := List.pairwise_cons.1 hp
    rcases List.mem_cons.1 hd with rfl | hd'
    · rcases List.mem_cons.1 he with rfl | he'
      · rfl
      · have := h1 e he'
        omega
    · rcases List.mem_cons.1 he with rfl | he'
      · have := h1 d hd'
        omega
      · exact ih hd' he' h2
theorem born_nodup {es : List MEI} {k : Nat} {l : MLI} (h : MapIOk es k l) : (es.map (·.2.2)).Nodup := h.inc.imp fun h => Nat.ne_of_lt h
theorem nodup_len : ∀ {xs ys : List Nat}, xs.Nodup → (∀ x ∈ xs, x ∈ ys) → xs.length ≤ ys.length
  | [], _, _, _ => Nat.zero_le _
  | x :: r, ys, hn, hs => by
    obtain ⟨h1, h2⟩ := List.nodup_cons.1 hn
    have hx := hs x (by simp)
    have ih := nodup_len (xs := r) (ys := ys.erase x) h2 fun y hy => (List.mem_erase_of_ne (fun q : y = x => h1 (q ▸ hy))).2 (hs y (by simp [hy]))
    have hl := List.length_erase_of_mem hx
    have hp := List.length_pos_of_mem hx
    simp only [List.length_cons]
    omega
def nxtV (kk : IntKind) : Option (Int × Value) → Value
  | none => .tuple #[.bool false]
  | some x => .tuple #[.bool true, .int kk x.1, x.2]
def NxtI (l ss : MLI) : Option (Int × Value) → Prop
  | none => ss.Perm l
  | some x => x ∈ l ∧ ss.length < l.length
def nxtF (kk : IntKind) (b r : Nat) (l ss : MLI) (cur : Option (Int × Value)) : Option (Int × Value) → Fact
  | none => itIF kk b r l ss cur
  | some x => itIF kk b r l (ss ++ [x]) (some x)
theorem perm_of {es ds : List MEI} (h1 : (es.map (·.2.2)).Nodup) (h2 : (ds.map (·.2.2)).Nodup) (hs : ∀ d ∈ ds, d ∈ es) (ha : ∀ e ∈ es, e ∈ ds) : ds.Perm es := by
  have n1 : es.Nodup := (List.pairwise_map.1 h1).imp fun {a b} q e => q (by rw [e])
  have n2 : ds.Nodup := (List.pairwise_map.1 h2).imp fun {a b} q e => q (by rw [e])
  exact (List.perm_ext_iff_of_nodup n2 n1).2 fun x => ⟨hs x, ha x⟩
section
variable {cx : Cx} {β : Va} {n : Nat} {H : List Bk} {F : List Fact} {w : World}
theorem Sat.rangeI (h : Sat cx β n H F w) (g : Good cx) (j : Nat) {b : Nat} {l : MLI} (hj : nth F j = some (mapIF kk b l)) {t kt et : TypeId} {i : TI} (hi : lk cx.tt t = some i := by rfl) (hd : i.desc = .map kt et := by rfl) :
    ∃ r w', (Instr.range t (.map (some b))).run cx.P w = .ok (.pointer (some ⟨r, 0, none⟩)) w' ∧ Sat cx β n H (putAt F j (itIF kk b r l [] none)) w' := by
  obtain ⟨es, k, hb, hm⟩ := h.get j hj
  have hlt : b < w.heap.size := (Array.getElem?_eq_some_iff.1 hb).1
  refine ⟨w.heap.size, _, run_range_map w t kt et b _ k ((g.ti hi).real (d := .map _ _) hd rfl) hb, h.upd hj rfl ((Chg.alloc w _).mono fun _ _ h => h.elim) ⟨es, [], k, k, k, #[], ?_, hm, heap_alloc_new w _, by omega, hm.lt, Nat.le_refl _, Nat.le_refl _, rfl, rfl, (fun d h => by cases h), List.nodup_nil, fun x h => by cases h⟩ (fun q hq => ?_)⟩
  · exact ((MapKept.heap_alloc w _).2 b hlt).trans hb
  · rcases hq with rfl | rfl
    · exact .inl rfl
    · exact .inr ⟨Nat.le_refl _, by simp⟩
theorem Sat.nextI (h : Sat cx β n H F w) (j : Nat) {b r : Nat} {l ss : MLI} {cur : Option (Int × Value)} (hj : nth F j = some (itIF kk b r l ss cur)) (ty : TypeId) :
    ∃ (o : {o : Option (Int × Value) // NxtI l ss o}) (w' : World), (Instr.next (.pointer (some ⟨r, 0, none⟩)) false ty).run cx.P w = .ok (nxtV kk o.1) w' ∧ Sat cx β n H (putAt F j (nxtF kk b r l ss cur o.1)) w' := by
  have hp := h.get j hj
  obtain ⟨es, ds, k, since, c0, seen, hb, hm, hr, hne, hold, hsc, hsk, hss, hseen, hsub, hnd, hcur⟩ := hp
  have hold' : ∀ x ∈ (es.map (MEI.ent kk)).toArray.toList, x.born < since := by
    intro x hx
    rw [List.toList_toArray] at hx
    obtain ⟨e, he, rfl⟩ := List.mem_map.1 hx
    exact hold e he
  have hin : ∀ e ∈ es, seen.contains e.2.2 = true → e ∈ ds := by
    intro e he q
    have q2 : e.2.2 ∈ ds.map (·.2.2) := by rw [← hseen]; simpa using q
    obtain ⟨d, hd, e2⟩ := List.mem_map.1 q2
    rwa [← born_inj hm (hsub d hd) he e2]
  rcases run_next_at (P := cx.P) w ty r b since c0 seen _ k hr hb hold' hsc with ⟨h0, hrun⟩ | ⟨e, he, w1, hal, hrun⟩
  · have hall : ∀ e ∈ es, e ∈ ds := by
      intro e he
      refine hin e he ?_
      cases q : seen.contains e.2.2 with
      | true => rfl
      | false =>
        have : (MEI.ent kk e) ∈ leftOf (es.map (MEI.ent kk)).toArray seen := by
          unfold leftOf
          rw [Array.mem_filter]
          exact ⟨by rw [List.mem_toArray]; exact List.mem_map.2 ⟨e, he, rfl⟩, by show (!seen.contains e.2.2) = true; rw [q]; rfl⟩
        have e0 := Array.eq_empty_of_size_eq_zero h0
        rw [e0] at this
        simp at this
    have hperm : ss.Perm l := by
      rw [← hss, ← hm.cut]
      exact (perm_of (born_nodup hm) hnd hsub hall).map _
    refine ⟨⟨none, hperm⟩, w, hrun, ?_⟩
    show Sat cx β n H (putAt F j (itIF kk b r l ss cur)) w
    exact h.upd hj rfl (Chg.refl _ _) (h.get j hj) (fun q hq => .inl hq)
  · unfold leftOf at he
    rw [Array.mem_toList_iff, Array.mem_filter] at he
    obtain ⟨he1, he2⟩ := he
    obtain ⟨d, hd, rfl⟩ : ∃ d ∈ es, MEI.ent kk d = e := by simpa using he1
    have hns : ¬ seen.contains d.2.2 = true := by
      intro q
      have q2 : (!seen.contains d.2.2) = true := he2
      rw [q] at q2
      cases q2
    have hnd2 : d ∉ ds := fun q => hns (by
      have : d.2.2 ∈ seen.toList := by rw [hseen]; exact List.mem_map.2 ⟨d, q, rfl⟩
      simpa using this)
    have hlen : ss.length < l.length := by
      have hx := nodup_len (xs := d.2.2 :: ds.map (·.2.2)) (ys := es.map (·.2.2)) (List.nodup_cons.2 ⟨fun q => ?_, hnd⟩) (fun x hx => ?_)
      · rw [← hss, ← hm.cut, List.length_map, List.length_map]
        simp only [List.length_cons, List.length_map] at hx
        omega
      · obtain ⟨d', hd', e2⟩ := List.mem_map.1 q
        rw [born_inj hm (hsub d' hd') hd e2] at hd'
        exact hnd2 hd'
      · rcases List.mem_cons.1 hx with rfl | hx
        · exact List.mem_map.2 ⟨d, hd, rfl⟩
        · obtain ⟨d', hd', rfl⟩ := List.mem_map.1 hx
          exact List.mem_map.2 ⟨d', hsub d' hd', rfl⟩
    have hmem : d.cut ∈ l := by rw [← hm.cut]; exact List.mem_map.2 ⟨d, hd, rfl⟩
    refine ⟨⟨some d.cut, hmem, hlen⟩, _, hrun, ?_⟩
    have hr1 : w1.heap[r]? = some (.mapIter (some b) since seen c0) := by rcases hal with rfl | rfl <;> exact hr
    have hb1 : w1.heap[b]? = some (.map (es.map (MEI.ent kk)).toArray k) := by rcases hal with rfl | rfl <;> exact hb
    have hset := MapKept.heap_set (o' := .mapIter (some b) since (seen.push d.2.2) k) hr1
    refine h.upd hj rfl ?_ ?_ (fun q hq => .inl hq)
    · rcases hal with rfl | rfl <;> exact ⟨rfl, rfl, rfl, by simp [setBlock], fun i _ hi => hset.2 i (fun e1 => hi (.inr e1))⟩
    · refine ⟨es, ds ++ [d], k, since, k, seen.push d.2.2, (hset.2 b (fun e1 => hne e1.symm)).trans hb1, hm, hset.1, hne, hold, hsk, hsk, ?_, ?_, ?_, ?_, ?_⟩
      · rw [List.map_append, hss]
        rfl
      · rw [Array.toList_push, hseen, List.map_append]
        rfl
      · intro x hx
        rcases List.mem_append.1 hx with hx | hx
        · exact hsub x hx
        · obtain rfl := List.mem_singleton.1 hx
          exact hd
      · rw [List.map_append]
        refine List.nodup_append.2 ⟨hnd, by simp, fun x hx y hy q => ?_⟩
        simp only [List.map_cons, List.map_nil, List.mem_singleton] at hy
        subst hy q
        rw [← hseen] at hx
        exact hns (by simpa using hx)
      · intro x hx
        cases hx
        exact ⟨d, seen, hd, rfl, rfl, rfl⟩
theorem Sat.entryI (h : Sat cx β n H F w) (j : Nat) {b r : Nat} {l ss : MLI} {x : Int × Value} (hj : nth F j = some (itIF kk b r l ss (some x))) :
    (Instr.entry (.pointer (some ⟨r, 0, none⟩))).run cx.P w = .ok (.tuple #[.int kk x.1, x.2]) w := by
  obtain ⟨es, ds, k, since, c0, seen, hb, hm, hr, hne, hold, hsc, hsk, hss, hseen, hsub, hnd, hcur⟩ := h.get j hj
  obtain ⟨d, s0, hd, rfl, rfl, rfl⟩ := hcur x rfl
  have hn : ((es.map (MEI.ent kk)).toArray.toList.map (·.born)).Nodup := by
    rw [List.toList_toArray, List.map_map]
    exact born_nodup hm
  exact run_entry_at w r b since s0 _ c0 (MEI.ent kk d) hr hb (by rw [List.toList_toArray]; exact List.mem_map.2 ⟨d, hd, rfl⟩) hn
end
end Go.Proofs.YteenjgfbbkdlhaaGreatDoor.Sx

namespace Go.Proofs.YteenjgfbbkdlhaaGreatDoor.Sx
open Go
attribute [local irreducible] Calls
end Go.Proofs.YteenjgfbbkdlhaaGreatDoor.Sx

namespace Go.Proofs.YteenjgfbbkdlhaaGreatDoor.Sx
open Go Sha
attribute [local irreducible] Calls
def stG (b ty : Nat) (s : S8) (ex : List Value) : Fact := bkF b ty (s.l.map u32 ++ ex)
theorem mixX_get (s t : S8) (X : List SL) : ∀ i, i < 8 → nth (mix s t i ++ X) i = some (sl32 (s.l.getD i 0))
  | 0, _ => rfl | 1, _ => rfl | 2, _ => rfl | 3, _ => rfl | 4, _ => rfl | 5, _ => rfl | 6, _ => rfl | 7, _ => rfl
  | n + 8, h => by omega
theorem mixX_set (s t : S8) (X : List SL) : ∀ i, i < 8 → putAll (mix s t i ++ X) i [sl32 (s.l.getD i 0 + t.l.getD i 0)] = mix s t (i + 1) ++ X
  | 0, _ => rfl | 1, _ => rfl | 2, _ => rfl | 3, _ => rfl | 4, _ => rfl | 5, _ => rfl | 6, _ => rfl | 7, _ => rfl
  | n + 8, h => by omega
theorem stepG_c (w : World) (b ty : Nat) (s : S8) (ex : List Value) (A : Option Addr) (l : List UInt8) (c : Nat) (hm : Mem w [stG b ty s ex, bsF A l, oddF 5]) (hc : l.length ≤ c) (hl : 64 ≤ l.length) (hcm : c ≤ maxLen) :
    Con Tryz.prog n_sha_state_step #[.pointer (some ⟨b, 0, none⟩), .slice A l.length c] w [stG b ty s ex] fun v Fs => v = .tuple #[] ∧ Fs = [stG b ty (Sha.step s l) ex] := by
  obtain ⟨ws, hws⟩ : ∃ ws, W l = ws := ⟨_, rfl⟩
  have hwl : ws.length = 64 := by rw [← hws]; exact W_len l
  have g := good_sha_state_step w (Un [stG b ty s ex]) (bs := [b])
  have hs0 : Sat (cx_sha_state_step w (Un [stG b ty s ex]) [b]) (Va.of fun _ => b) 1 [] [stG b ty s ex, bsF A l, oddF 5] w :=
    hm.sat rfl (ownIn (Gs := [stG b ty s ex]) (Rs := [bsF A l, oddF 5]) (fun g hg => by
      rcases List.mem_cons.1 hg with rfl | hg
      · rfl
      · obtain rfl := List.mem_singleton.1 hg; rfl)) ⟨Nat.le_refl _, fun i hi => by
        have hi1 : i < 1 := hi
        have hi0 : i = 0 := by omega
        rw [hi0]; rfl⟩
  have hs1 := hs0.toBk 0 rfl 0 Nat.zero_lt_one rfl
  refine con_of_sx (cx := cx_sha_state_step w (Un [stG b ty s ex]) [b]) g b_sha_state_step rfl rfl (β := Va.of fun _ => b) [.c (.p 0 0), .c (.v (.slice A l.length c))] 1 [⟨0, ty, s.l.map sl32 ++ ex.map SL.v⟩] [bsF A l, oddF 5] rfl rfl (by rw [List.map_append, List.map_map] at hs1; exact hs1) ?_
  refine call_pu (fun β w' hs => spread_c w' A l c (hs.get 0 rfl) hc hl hcm) ?_
  rw [hws]
  have ea : ofValue (.agg (ws.map u32).toArray) = .agg (ws.map sl32) := by simp only [ofValue, List.map_map]; rfl
  rw [ea]
  conv => whnf
  generalize h1 : Nat.beq _ _ = b1
  generalize h2 : allOne _ = b2
  obtain rfl : b1 = true := h1.symm.trans (by rw [List.length_map, hwl]; rfl)
  obtain rfl : b2 = true := h2.symm.trans (arr_one ws)
  clear h1 h2
  conv => whnf
  generalize h1 : Nat.ble _ _ = b1
  obtain rfl : b1 = true := h1.symm.trans (by rw [List.length_map, hwl]; rfl)
  clear h1
  refine draw_rule g p_sha_state_step_1 (by kernel_rfl) _ _ Sub.refl ?_
  refine ⟨0, rfl, by decide, ?_⟩
  refine ⟨1, rfl, by decide, ?_⟩
  refine ⟨2, rfl, by decide, ?_⟩
  refine ⟨3, rfl, by decide, ?_⟩
  refine ⟨4, rfl, by decide, ?_⟩
  refine ⟨5, rfl, by decide, ?_⟩
  refine ⟨6, rfl, by decide, ?_⟩
  refine ⟨7, rfl, by decide, ?_⟩
  have hp : putAll (ti332.zero.map SL.v) 0 (ws.map sl32) = ws.map sl32 := putAll_full (by rw [List.length_map, hwl]; rfl)
  refine loop_rule (ι := Nat) 2 (fun i => [(0, .c (.p 0 0)), (4, .c (.p 1 0)), (5, .c (sl32 (rounds s ws i).a)), (6, .c (sl32 (rounds s ws i).b)), (7, .c (sl32 (rounds s ws i).c)), (8, .c (sl32 (rounds s ws i).d)), (9, .c (sl32 (rounds s ws i).e)), (10, .c (sl32 (rounds s ws i).f)), (11, .c (sl32 (rounds s ws i).g)), (12, .c (sl32 (rounds s ws i).h)), (55, .c (.v (.int .i64 i)))])
    (fun _ => [⟨1, 332, ws.map sl32⟩, ⟨0, ty, s.l.map sl32 ++ ex.map SL.v⟩]) (fun _ => [bsF A l, oddF 5])
    (fun i => i ≤ 64) (fun i => 64 - i) 0 (Nat.zero_le _) (Ent.mk' ⟨rfl, rfl, rfl, rfl, rfl, rfl, rfl, rfl, rfl, rfl, rfl, trivial⟩ rfl (fun β w' hs => by rw [← hp]; exact hs)) g ?_
  intro i hi
  obtain ⟨r, hr⟩ : ∃ r, rounds s ws i = r := ⟨_, rfl⟩
  rw [hr]
  obtain ⟨xa, xb, xc, xd, xe, xf, xg, xh⟩ := r
  refine BIf.dec (fun hlt => ?_) (fun hge => ?_)
  · have hlt : i < 64 := by omega
    refine call_pu (fun β w' hs => rotl_c w' xe 6 (by omega) (by omega)) ?_
    refine call_pu (fun β w' hs => rotl_c w' xe 11 (by omega) (by omega)) ?_
    refine ⟨_, xor32 _ _, ?_⟩
    refine call_pu (fun β w' hs => rotl_c w' xe 25 (by omega) (by omega)) ?_
    refine ⟨_, xor32 _ _, ?_⟩
    refine ⟨_, and32 _ _, _, not32 _, _, and32 _ _, _, xor32 _ _, ?_⟩
    refine draw_rule g p_sha_state_step_7 (by kernel_rfl) _ _ Sub.refl ?_
    refine ⟨_, add32 _ _, _, add32 _ _, i, rfl, hlt, u32 (K.getD i 0), fun β w' hs => odd_cell (hs.get 1 rfl) hlt, _, add32 _ _, i, rfl, hlt, ?_⟩
    conv => whnf
    generalize hn : nth _ _ = o
    obtain rfl : o = some (sl32 (ws.getD i 0)) := hn.symm.trans (by
      show nth (ws.map sl32) (0 + i * 1) = _
      rw [nth_eq, Nat.zero_add, Nat.mul_one, List.getElem?_map, List.getElem?_eq_getElem (by omega)]
      simp [List.getD, List.getElem?_eq_getElem (show i < ws.length by omega)])
    clear hn
    refine ⟨_, add32 _ _, ?_⟩
    refine call_pu (fun β w' hs => rotl_c w' xa 2 (by omega) (by omega)) ?_
    refine call_pu (fun β w' hs => rotl_c w' xa 13 (by omega) (by omega)) ?_
    refine ⟨_, xor32 _ _, ?_⟩
    refine call_pu (fun β w' hs => rotl_c w' xa 22 (by omega) (by omega)) ?_
    refine ⟨_, xor32 _ _, ?_⟩
    refine ⟨_, and32 _ _, _, and32 _ _, _, xor32 _ _, _, and32 _ _, _, xor32 _ _, ?_⟩
    refine ⟨_, add32 _ _, _, add32 _ _, _, add32 _ _, ?_⟩
    refine ⟨((i + 1 : Nat) : Int), by rw [wrap_i64 (by omega) (by omega)]; rfl, ?_⟩
    refine ⟨i + 1, by omega, by omega, Ent.same ?_ rfl⟩
    rw [rounds_succ, hr]
    exact ⟨rfl, rfl, rfl, rfl, rfl, rfl, rfl, rfl, rfl, rfl, rfl, trivial⟩
  · obtain ⟨t, ht⟩ : ∃ t, (⟨xa, xb, xc, xd, xe, xf, xg, xh⟩ : S8) = t := ⟨_, rfl⟩
    have hst : Sha.step s l = s.add t := by
      have : i = 64 := by omega
      rw [Sha.step, hws, ← ht, ← hr, this]
    rw [hst]
    refine loop_rule (ι := Nat) 2 (fun i => [(0, .c (.p 0 0)), (129, .agg [sl32 xa, sl32 xb, sl32 xc, sl32 xd, sl32 xe, sl32 xf, sl32 xg, sl32 xh]), (130, .c (.v (.int .i64 i)))])
      (fun i => [⟨1, 332, ws.map sl32⟩, ⟨0, ty, mix s t i ++ ex.map SL.v⟩]) (fun _ => [bsF A l, oddF 5])
      (fun i => i ≤ 8) (fun i => 8 - i) 0 (Nat.zero_le _) (Ent.same ⟨rfl, rfl, rfl, trivial⟩ rfl) g ?_
    intro j hj
    refine BIf.dec (fun hlt => ?_) (fun hge => ?_)
    · have hlt : j < 8 := by omega
      refine ⟨j, sl32 (t.l.getD j 0), rfl, hlt, by rw [← ht]; show ((⟨xa, xb, xc, xd, xe, xf, xg, xh⟩ : S8).l.map sl32)[j * 1]? = _; rw [Nat.mul_one]; exact l_get _ j hlt, ?_⟩
      refine draw_rule g p_sha_state_step_15 (by kernel_rfl) [] [bsF A l, oddF 5] (Sub.of (List.nil_sublist _) (List.Sublist.refl _)) ?_
      refine ⟨j, rfl, hlt, ?_⟩
      conv => whnf
      generalize hn : nth _ _ = o
      obtain rfl : o = some (sl32 (s.l.getD j 0)) := hn.symm.trans (by
        show nth (mix s t j ++ ex.map SL.v) (0 + j * 1) = _
        rw [Nat.zero_add, Nat.mul_one]
        exact mixX_get s t (ex.map SL.v) j hlt)
      clear hn
      refine ⟨Sub.of (List.nil_sublist _) (List.Sublist.refl _), _, add32 _ _, j, rfl, hlt, ?_⟩
      conv => whnf
      generalize h1 : Nat.ble _ _ = b1
      obtain rfl : b1 = true := h1.symm.trans (by
        show Nat.ble (0 + j * 1 + 1) (mix s t j ++ ex.map SL.v).length = true
        rw [List.length_append, mix_len s t j (by omega), Nat.ble_eq]; omega)
      clear h1
      refine ⟨Sub.of (List.nil_sublist _) (List.Sublist.refl _), ?_⟩
      refine ⟨((j + 1 : Nat) : Int), by rw [wrap_i64 (by omega) (by omega)]; rfl, ?_⟩
      refine ⟨j + 1, by omega, by omega, Ent.mk' ⟨rfl, rfl, rfl, trivial⟩ rfl (fun β w' hs => ?_)⟩
      have e1 := mixX_set s t (ex.map SL.v) j hlt
      rw [← e1]
      have e3 : 0 + j * 1 = j := by omega
      have hs2 : Sat (cx_sha_state_step w (Un [stG b ty s ex]) [b]) β 2 [⟨1, 332, ws.map sl32⟩, ⟨0, ty, putAll (mix s t j ++ ex.map SL.v) (0 + j * 1) [sl32 (s.l.getD j 0 + t.l.getD j 0)]⟩] [bsF A l, oddF 5] w' := hs
      rw [e3] at hs2
      exact hs2
    · obtain rfl : j = 8 := by omega
      intro β w' hs
      have h1 := hs.weaken (List.sublist_cons_self _ _) (List.Sublist.refl _)
      have h2 := h1.ofBk
      have hb : β 0 = b := h2.fix.2 0 (Nat.zero_lt_one)
      refine h2.fin [0] ⟨rfl, ?_⟩
      show [bkF (β 0) ty ((mix s t 8 ++ ex.map SL.v).map (SL.val β))] = [stG b ty (s.add t) ex]
      rw [hb, List.map_append, List.map_map, show SL.val β ∘ SL.v = id from rfl, List.map_id]
      rfl
theorem Mem.lastRo {w : World} {f R X : Fact} {A : Option Addr} {l : List UInt8} (h : Mem w [f, R, X, rdoF 1 A l.length (l.map byte)]) : Mem w [f, R, X, bsF A l] := by
  refine ⟨fun g hg => ?_, fun g hg k hk => ?_, ?_⟩
  · simp only [List.mem_cons, List.not_mem_nil, or_false] at hg
    rcases hg with rfl | rfl | rfl | rfl
    · exact h.fact _ (by simp)
    · exact h.fact _ (by simp)
    · exact h.fact _ (by simp)
    · exact h.fact (rdoF 1 A l.length (l.map byte)) (by simp)
  · simp only [List.mem_cons, List.not_mem_nil, or_false] at hg
    rcases hg with rfl | rfl | rfl | rfl
    · exact h.flt _ (by simp) k hk
    · exact h.flt _ (by simp) k hk
    · exact h.flt _ (by simp) k hk
    · exact h.flt (rdoF 1 A l.length (l.map byte)) (by simp) k hk
  · have hs := h.sepf
    simp only [List.pairwise_cons, List.mem_cons, List.not_mem_nil, or_false, forall_eq_or_imp, forall_eq, false_implies, implies_true, List.Pairwise.nil, and_true] at hs ⊢
    obtain ⟨⟨a1, a2, a3⟩, ⟨b1, b2⟩, c1⟩ := hs
    exact ⟨⟨a1, a2, fun _ => a3 (.inr rfl)⟩, ⟨b1, fun _ => b2 (.inr rfl)⟩, fun _ => c1 (.inr rfl)⟩
theorem sumJ_c (w : World) (P : Option Addr) (nP cP : Nat) (l : List UInt8) (hj : ∀ w', (oldF w).p w' → Con Tryz.prog n_bytes_Join #[.slice P nP cP, .slice none 0 0] w' [] (readOut l)) (hn : l.length ≤ 70368744177664) (h1 : (oddF 5).p w) (h0 : (firstF 2).p w) :
    Con Tryz.prog n_sha_Sum #[.slice P nP cP] w [] fun v Fs => ∃ A' c', v = .slice A' 32 c' ∧ 32 ≤ c' ∧ c' ≤ maxLen ∧ Fs = [browF ty_uint8 A' (Sha.sum l) c'] := by
  have g := good_sha_Sum w (Un [])
  have hs0 : Sat (cx_sha_Sum w (Un [])) Va.z 0 [] [oldF w] w := old_sat rfl
  have hs1 : Sat (cx_sha_Sum w (Un [])) Va.z 0 [] [oddF 5, oldF w] w := hs0.sub 0 rfl rfl _ rfl h1 (rd_lt h1)
  refine con_of_sx (cx := cx_sha_Sum w (Un [])) g b_sha_Sum rfl rfl (β := Va.z) [.c (.v (.slice P nP cP))] 0 [] [oddF 5, oldF w] rfl rfl hs1 ?_
  refine ⟨Sha.first.l.map u32, rfl, fun β w' hs j u hu => ?_, ?_⟩
  · have h2 : Rd 1 (some ⟨2, 0, none⟩) 8 (Sha.first.l.map u32) w' := Rd.old h0 (hs.get 1 rfl)
    obtain ⟨ad, h3, h4⟩ := h2.2 (by decide)
    obtain rfl := Option.some.inj h3
    exact h4 j u hu
  refine call_con [] (fun β w' hs => hj w' (hs.get 1 rfl)) ?_
  rintro v Fs ⟨A1, c1, rfl, h2, h3, rfl⟩
  refine call_con [] (fun β w' hs => Blocks_c w' A1 l.length c1) ?_
  rintro v Fs ⟨bx, rfl, rfl⟩
  refine reify_rule g 0 (fun _ => Sha.first.l.map u32) rfl rfl (fun _ => rfl) (fun sb => ?_)
  obtain ⟨q, hq⟩ : ∃ q, l ++ ends l.length = q := ⟨_, rfl⟩
  have hsum : Sha.sum l = out ((blks q (q.length / 64)).foldl Sha.step Sha.first) := by rw [← go_eq, ← hq]; rfl
  rw [hsum]
  refine range_rule (α := List UInt8) (ι := S8) (κ := S8) g rfl (cv := [.pointer (some ⟨bx, 0, none⟩)]) rfl (by kernel_rfl) 1 (Nat.le_refl 1)
    (fun pre s => s = pre.foldl Sha.step Sha.first) (fun _ => []) (fun s => [stF sb 291 s]) (fun _ => ⟨rfl, trivial⟩)
    (fun _ _ _ => False) (fun _ => []) (fun _ => []) (fun _ => trivial)
    [bkF bx ty_sl_uint8 [.slice A1 l.length c1]] [rdoF 1 A1 l.length (l.map byte)] [oddF 5] ⟨rfl, trivial⟩ (fun g hg => by obtain rfl := List.mem_singleton.1 hg; rfl)
    Sha.first rfl (fun β w' hs => ⟨β, Agr.refl _ _, hs.perm [1, 2, 0, 3]⟩) (fun _ => insB)
    (fun xs Fs' => xs = blks q (q.length / 64) ∧ Fs' = []) (fun _ Fs' => Fs' = [])
    (fun l' w' f0 R J Jx hJ0 hJo hRo hY hm => (blocks_it l' w' bx A1 l c1 f0 R J Jx hJ0 hJo hRo hY hn hm.lastRo).mono fun _ Fs h => by rw [hq] at h; exact h) ?_ ?_ ?_
  · rintro s pre x args X W S l' bs pn pn' hbs hpre ⟨hx, B, rfl, rfl⟩
    refine ⟨_, rfl, ?_⟩
    refine call_con [1] (fun β w' hs => step64_c w' sb 291 s B x hx (hs.mem.take (js := [1, 0, 2]) rfl)) ?_
    rintro v Fs ⟨rfl, rfl⟩
    refine ⟨Sha.step s x, by show Sha.step s x = (pre ++ [x]).foldl Sha.step Sha.first; rw [List.foldl_append, hpre]; rfl, Ent.mk' trivial rfl (fun β w' hs => ?_)⟩
    exact hs.weaken (List.Sublist.refl _) (List.Sublist.cons_cons _ (List.nil_sublist _))
  · rintro xs s Fs hpre ⟨rfl, rfl⟩
    refine call_con [0] (fun β w' hs => stbytes_c w' sb 291 s (hs.mem.take (js := [0]) rfl)) ?_
    rintro v Fs ⟨A3, c3, rfl, h5, h6, rfl⟩
    intro β w' hs
    refine hs.fin [1] ⟨A3, c3, rfl, h5, h6, ?_⟩
    rw [← hpre]
    rfl
  · rintro e pre s Fs h _
    exact h.elim
end Go.Proofs.YteenjgfbbkdlhaaGreatDoor.Sx

namespace Go.Proofs.YteenjgfbbkdlhaaGreatDoor.Sx
open Go
def keyL (l : List UInt8) : List UInt8 := if 64 < l.length then Sha.sum l else l
def padL (l : List UInt8) (x : UInt8) : List UInt8 := (keyL l).map (x ^^^ ·) ++ List.replicate (64 - (keyL l).length) x
def hmL (key text : List UInt8) : List UInt8 := Sha.sum (padL key 0x5c ++ Sha.sum (padL key 0x36 ++ text))
def strU (pass salt : List UInt8) : Nat → List UInt8
  | 0 => hmL pass (salt ++ Bx.be4 1)
  | n + 1 => hmL pass (strU pass salt n)
def strX (pass salt : List UInt8) : Nat → List UInt8
  | 0 => strU pass salt 0
  | n + 1 => Bx.xorB (strX pass salt n) (strU pass salt (n + 1))
def stretchL (pass salt : List UInt8) (rounds : Nat) : List UInt8 := strX pass salt (rounds - 1)
theorem sum_len (l : List UInt8) : (Sha.sum l).length = 32 := rfl
theorem keyL_len {l : List UInt8} : (keyL l).length ≤ 64 := by
  unfold keyL
  split
  · rw [sum_len]; omega
  · omega
theorem padL_len (l : List UInt8) (x : UInt8) : (padL l x).length = 64 := by
  unfold padL
  have := keyL_len (l := l)
  simp only [List.length_append, List.length_map, List.length_replicate]
  omega
theorem hmL_len (k t : List UInt8) : (hmL k t).length = 32 := rfl
theorem strU_len (p s : List UInt8) : ∀ n, (strU p s n).length = 32
  | 0 => rfl
  | _ + 1 => rfl
theorem strX_len (p s : List UInt8) : ∀ n, (strX p s n).length = 32
  | 0 => strU_len p s 0
  | n + 1 => by
    rw [strX, Bx.xorB, List.length_zipWith, strX_len p s n, strU_len p s (n + 1)]
    rfl
end Go.Proofs.YteenjgfbbkdlhaaGreatDoor.Sx

namespace Go.Proofs.YteenjgfbbkdlhaaGreatDoor.Sx
open Go
attribute [local irreducible] Calls
section
variable {cx : Cx} {β : Va} {n : Nat} {env : Env} {H : List Bk} {F : List Fact} {w : World}
theorem Sat.copyBk (h : Sat cx β n H F w) (g : Good cx) (j : Nat) {b o k c e m cs r : Nat} {A : Option Addr} {cells ys : List Value} (hj : nth F j = some (bkF b e cells)) (hr : Rd 1 A m ys w) (h1 : ∀ u ∈ ys, u.oneCell' = true)
    {t : TypeId} {i ie : TI} (ty : TypeId) (cst : Array Bool) (hm : min m k = r) (hfit : o + r ≤ cells.length) (hi : lk cx.tt t = some i := by rfl) (hd : i.desc = .slice e := by rfl) (hie : lk cx.tt e = some ie := by rfl) (hz : ie.size = 1 := by rfl) :
    ∃ w', (builtin .copy #[t, t] ty cst #[.slice (some ⟨b, o, none⟩) k c, .slice A m cs]).run cx.P w = .ok (.value (.int .i64 (r : Int))) w' ∧
      Sat cx β n H (putAt F j (bkF b e (putAll cells o (ys.take r)))) w' := by
  subst hm
  have ht := (g.ti hi).real (d := .slice _) hd rfl
  have tie := g.ti hie
  have hrt := hr.take (k := min m k) (Nat.min_le_left _ _)
  have hsz := tie.run_size w
  rw [hz] at hsz
  have hfc : (Builtin.firstCells 1 (min m k) (.slice A m cs)).run cx.P w = .ok (ys.take (min m k)).toArray w := by
    cases A with
    | none =>
      have h0 : min m k = 0 := by
        rcases Nat.eq_zero_or_pos (min m k) with q | q
        · exact q
        · obtain ⟨ad, q, _⟩ := hrt.2 q; cases q
      rw [h0]
      rfl
    | some ad =>
      have hl := run_loadCells_list (P := cx.P) (w := w) ad (ys.take (min m k)) (fun j u hu => by
        have hp : 0 < min m k := by
          rcases Nat.eq_zero_or_pos (min m k) with q | q
          · rw [q] at hu; simp at hu
          · exact q
        obtain ⟨ad', q, hc⟩ := hrt.2 hp
        obtain rfl := Option.some.inj q
        exact hc j u hu)
      have hlen : (ys.take (min m k)).length = min m k := by rw [hrt.1, Nat.mul_one]
      rw [hlen] at hl
      simpa [Builtin.firstCells] using hl
  obtain ⟨w', e1, e2⟩ := h.bkSet (us := ys.take (min m k)) (o := o) j hj (by rw [hrt.1]; omega) (fun u hu => h1 u (List.take_subset _ _ hu))
  rw [add_none, Nat.zero_add] at e1
  refine ⟨w', ?_, e2⟩
  have hmin : Nat.min m k = min m k := rfl
  simp [builtin, Builtin.copy_, run_underlying ht, Builtin.lenOf, hsz, hfc, e1, goInt, hmin]
end
theorem bk_rd {b e : Nat} {cells : List Value} {w : World} (h : (bkF b e cells).p w) {k : Nat} (hk : k ≤ cells.length) : Rd 1 (some ⟨b, 0, none⟩) k (cells.take k) w := by
  refine ⟨by rw [List.length_take]; omega, fun _ => ⟨_, rfl, fun j u hu => ?_⟩⟩
  rw [List.getElem?_take] at hu
  split at hu
  · rw [add_none, Nat.zero_add]
    have h' : w.heap[b]? = some (.cells cells.toArray e (0, 0)) := h
    rw [cell_of_row w b j _ _ _ h']
    simpa using hu
  · cases hu
theorem bk_bs {b e : Nat} {l : List UInt8} {junk : List Value} {w : World} (h : (bkF b e (l.map byte ++ junk)).p w) : Bs w (some ⟨b, 0, none⟩) l := by
  have := bk_rd h (k := l.length) (by simp)
  rwa [List.take_left' (by simp)] at this
theorem mul_c (w : World) : Pu Tryz.prog n_math_bits_Mul #[.int .u64 1, .int .u64 64] w (.tuple #[.int .u64 0, .int .u64 64]) := by
  refine pu_of (Calls.mono (Tryz.bits_Mul 1 64 (by decide) (by decide) w) ?_)
  rintro e w' ⟨rfl, rfl⟩
  exact ⟨_, rfl, rfl, Chg.refl _ _⟩
theorem mnz_run (w : World) (n : Nat) (hn : n ≤ 281474976710656) : ∃ cs : List Value, (callFunc 163 #[.int .i64 n]).run Tryz.prog w = .ok (.value (.slice (some ⟨w.heap.size, 0, none⟩) n cs.length)) (w.drew.drew.alloc (.cells cs.toArray ty_uint8)) ∧ n ≤ cs.length := by
  obtain ⟨cs, h1, h2, _⟩ := Lib.run_makeNoZero (P := Tryz.prog) w #[] ty_sl_uint8 ty_uint8 ((ok102).real (d := .slice _) rfl rfl) n hn
  refine ⟨cs.toList, ?_, by simpa using h2⟩
  have hx := run_callFunc_extern (P := Tryz.prog) (f := 163) (fn := Tryz.f163) (e := Extern.BytealgMakeNoZero.makeNoZero #[ty_int] #[ty_sl_uint8]) Tryz.func163 (by decide +kernel) rfl (by rfl) (by rfl) #[.int .i64 n] w
  rw [hx]
  have h1' : (Extern.BytealgMakeNoZero.makeNoZero #[ty_int] #[ty_sl_uint8] #[.int .i64 n]).run Tryz.prog w = _ := h1
  rw [h1']
  simp
end Go.Proofs.YteenjgfbbkdlhaaGreatDoor.Sx

namespace Go.Proofs.YteenjgfbbkdlhaaGreatDoor.Sx
open Go
attribute [local irreducible] Calls
theorem putAll_app {α : Type} (a b ys : List α) (h : ys.length ≤ b.length) : putAll (a ++ b) a.length ys = a ++ ys ++ b.drop ys.length := by
  rw [putAll_all _ _ _ (by simp; omega)]
  rw [List.take_left' rfl, List.drop_append]
  simp [show a.length + ys.length - a.length = ys.length by omega]
theorem cutA_at (b k : Nat) {m : Nat} (h : m ≠ k) : cutA (some ⟨b, 0, none⟩) m k 1 = some ⟨b, k, none⟩ := by
  unfold cutA
  rw [if_neg h]
  simp [add_none]
theorem cutA_0 (A : Option Addr) {m : Nat} (h : A = none ∨ ∃ b o, A = some ⟨b, o, none⟩) : cutA A m 0 1 = A := by
  unfold cutA
  split
  · rfl
  · rcases h with rfl | ⟨b, o, rfl⟩
    · rfl
    · simp [add_none]
def reps (k : Nat) (x : UInt8) : List Value := (List.replicate k x).map byte
theorem reps_len (k : Nat) (x : UInt8) : (reps k x).length = k := by simp [reps]
theorem reps_take {k r : Nat} (x : UInt8) (h : r ≤ k) : (reps k x).take r = reps r x := by
  unfold reps
  rw [← List.map_take, List.take_replicate, Nat.min_eq_left h]
theorem reps_add (k r : Nat) (x : UInt8) : reps k x ++ reps r x = reps (k + r) x := by
  unfold reps
  rw [← List.map_append, List.replicate_append_replicate]
theorem reps_one (k : Nat) (x : UInt8) : ∀ u ∈ reps k x, u.oneCell' = true := bytes_one _
set_option maxHeartbeats 1000000 in
theorem repeat64_c (w : World) (B : Option Addr) (cB : Nat) (x : UInt8) (hr : Rd 1 B 1 [byte x] w) :
    Con Tryz.prog n_bytes_Repeat #[.slice B 1 cB, .int .i64 64] w [] fun v Fs => ∃ b junk, v = .slice (some ⟨b, 0, none⟩) 64 64 ∧ Fs = [bkF b ty_uint8 (reps 64 x ++ junk)] := by
  have g := good_bytes_Repeat w (Un [])
  refine con_of_sx (cx := cx_bytes_Repeat w (Un [])) g b_bytes_Repeat rfl rfl (β := Va.z) [.c (.v (.slice B 1 cB)), .c (.v (.int .i64 64))] 0 [] [oldF w] rfl rfl (old_sat rfl) ?_
  refine ⟨1, by decide, 64, by decide, ?_⟩
  refine call_pu (fun β w' hs => mul_c w') ?_
  refine ⟨64, by decide, ?_⟩
  refine .inr (fun β w' hs => ?_)
  obtain ⟨cs, hrun, hcs⟩ := mnz_run w' 64 (by decide)
  have hs1 : Sat (cx_bytes_Repeat w (Un [])) β 0 [] (bkF w'.heap.size ty_uint8 cs :: [oldF w]) (w'.drew.drew.alloc (.cells cs.toArray ty_uint8)) := by
    refine hs.drew.drew.add (Chg.alloc _ _) _ (heap_alloc_new _ _) (fun k hk => ?_)
    obtain rfl : k = w'.heap.size := hk
    exact ⟨Nat.le_refl _, by simp⟩
  refine ⟨_, _, hrun, Ret.mk [] _ hs1 ?_⟩
  obtain ⟨b, hb⟩ : ∃ b, w'.heap.size = b := ⟨_, rfl⟩
  rw [hb]
  clear hs1 hrun hs
  refine ⟨64, 64, 0, 64, 64, some ⟨b, 0, none⟩, rfl, rfl, rfl, hcs, Nat.le_refl _, Nat.zero_le _, rfl, rfl, cutA_0 _ (.inr ⟨b, 0, rfl⟩), ?_⟩
  refine ⟨[], [bkF b ty_uint8 (reps 1 x ++ cs.drop 1), oldF w], .c (.v (.int .i64 1)), fun β w' ty hs => ?_, trivial, ?_⟩
  · obtain ⟨w2, q1, q2⟩ := hs.copyBk g 0 rfl (hr.old (hs.get 1 rfl)) (reps_one 1 x) ty (t := ty_sl_uint8) #[false, false] (r := 1) (k := 64) (m := 1) (c := 64) (cs := cB) (o := 0) rfl (by omega)
    have e1 : putAll cs 0 ([byte x].take 1) = reps 1 x ++ cs.drop 1 := by
      have := putAll_app [] cs [byte x] (by simp; omega)
      show putAll cs 0 [byte x] = [byte x] ++ cs.drop 1
      simpa using this
    rw [e1] at q2
    exact ⟨w2, q1, q2⟩
  refine loop_rule (ι := Nat × List Value) 0 (fun i => [(7, .c (.v (.int .i64 64))), (8, .c (.v (.int .i64 64))), (9, .c (.v (.slice (some ⟨b, 0, none⟩) 64 64))), (10, .c (.v (.int .i64 (i.1 : Int))))]) (fun _ => []) (fun i => [bkF b ty_uint8 (reps i.1 x ++ i.2), oldF w])
    (fun i => 1 ≤ i.1 ∧ i.1 ≤ 64 ∧ 64 ≤ i.1 + i.2.length) (fun i => 64 - i.1) (1, cs.drop 1) ⟨Nat.le_refl _, by show 1 ≤ 64; decide, by simp only [List.length_drop]; omega⟩ (Ent.same ⟨rfl, rfl, rfl, rfl, trivial⟩ rfl) g ?_
  rintro ⟨k, junk⟩ ⟨h1, h2, h3⟩
  simp only at h1 h2 h3
  refine BIf.dec (fun hlt => ?_) (fun hge => ?_)
  · have hlt0 : (k : Int) < 64 := hlt
    have hk : k < 64 := by omega
    obtain ⟨r, hr0⟩ : ∃ r, min k (64 - k) = r := ⟨_, rfl⟩
    refine ⟨(k : Int), by show min (k : Int) 64 = k; omega, ?_⟩
    refine draw_rule g p_bytes_Repeat_20 (by kernel_rfl) [] [] (Sub.of (List.Sublist.refl _) (List.nil_sublist _)) ?_
    refine ⟨64, 64, k, 64 - k, 64 - k, some ⟨b, k, none⟩, rfl, rfl, rfl, Nat.le_refl _, Nat.le_refl _, by omega, rfl, rfl, cutA_at b k (by omega), ?_⟩
    refine ⟨64, k, 0, k, 64, some ⟨b, 0, none⟩, rfl, rfl, rfl, Nat.le_refl _, by omega, Nat.zero_le _, rfl, rfl, cutA_0 _ (.inr ⟨b, 0, rfl⟩), ?_⟩
    refine ⟨[], [bkF b ty_uint8 (reps (k + r) x ++ junk.drop r), oldF w], .c (.v (.int .i64 (r : Int))), fun β w' ty hs => ?_, trivial, ?_⟩
    · have hrd : Rd 1 (some ⟨b, 0, none⟩) k (reps k x) w' := by
        have := bk_rd (hs.get 0 rfl) (k := k) (by simp [reps_len])
        rwa [List.take_left' (reps_len k x)] at this
      obtain ⟨w2, q1, q2⟩ := hs.copyBk g 0 rfl hrd (reps_one k x) ty (t := ty_sl_uint8) #[false, false] (r := r) (k := 64 - k) (m := k) (c := 64 - k) (cs := 64) (o := k) hr0 (by simp only [List.length_append, reps_len]; omega)
      have e1 : putAll (reps k x ++ junk) k ((reps k x).take r) = reps (k + r) x ++ junk.drop r := by
        have := putAll_app (reps k x) junk ((reps k x).take r) (by rw [List.length_take, reps_len]; omega)
        rw [reps_len] at this
        rw [this, reps_take x (by omega), reps_add, reps_len]
      rw [e1] at q2
      exact ⟨w2, q1, q2⟩
    refine ⟨Sub.of (List.Sublist.refl _) (List.nil_sublist _), ((k + r : Nat) : Int), by rw [wrap_i64 (by omega) (by omega)]; omega, ?_⟩
    exact ⟨(k + r, junk.drop r), ⟨by show 1 ≤ k + r; omega, by show k + r ≤ 64; omega, by show 64 ≤ k + r + (junk.drop r).length; rw [List.length_drop]; omega⟩, by show 64 - (k + r) < 64 - k; omega, Ent.same ⟨rfl, rfl, rfl, rfl, trivial⟩ rfl⟩
  · have hge0 : ¬ (k : Int) < 64 := hge
    obtain rfl : k = 64 := by omega
    intro β w' hs
    exact hs.fin [0] ⟨b, junk, rfl, rfl⟩
def padN (k : List UInt8) (x : UInt8) (i : Nat) : List UInt8 := (k.take i).map (x ^^^ ·) ++ List.replicate (64 - i) x
theorem padN_len {k : List UInt8} {x : UInt8} {i : Nat} (h : i ≤ k.length) (h2 : i ≤ 64) : (padN k x i).length = 64 := by
  unfold padN
  simp only [List.length_append, List.length_map, List.length_take, List.length_replicate]
  omega
theorem padN_at {k : List UInt8} {x : UInt8} {i : Nat} (h : i < k.length) (h2 : i < 64) : (padN k x i)[i]? = some x := by
  unfold padN
  rw [List.getElem?_append_right (by simp only [List.length_map, List.length_take]; omega)]
  simp only [List.length_map, List.length_take]
  rw [List.getElem?_replicate, if_pos (by omega)]
theorem padN_set {k : List UInt8} {x y : UInt8} {i : Nat} (h : k[i]? = some y) (h2 : i < 64) : (padN k x i).set i (x ^^^ y) = padN k x (i + 1) := by
  have hi : i < k.length := (List.getElem?_eq_some_iff.1 h).1
  unfold padN
  rw [List.set_append_right _ _ (by simp only [List.length_map, List.length_take]; omega)]
  simp only [List.length_map, List.length_take]
  rw [show i - min i k.length = 0 by omega, show 64 - i = (64 - (i + 1)) + 1 by omega, List.replicate_succ, List.set_cons_zero, List.take_add_one, h]
  simp
theorem padN_all (k : List UInt8) (x : UInt8) : padN k x k.length = k.map (x ^^^ ·) ++ List.replicate (64 - k.length) x := by
  unfold padN
  rw [List.take_length]
theorem Con.real {P : Program} {k : FuncId} {args : Array Value} {w : World} {Gs : List Fact} {R : Value → List Fact → Prop} (h : Con P k args w Gs R) : Con P k args w Gs (fun v Fs => R v Fs ∧ ∃ w', Mem w' Fs) :=
  Calls.mono h fun _ w' ⟨v, he, Fs, hR, hc, hm, ho, hD⟩ => ⟨v, he, Fs, ⟨hR, w', hm⟩, hc, hm, ho, hD⟩
theorem padN_0 (k : List UInt8) (x : UInt8) : (padN k x 0).map byte = reps 64 x := by simp [padN, reps]
set_option maxHeartbeats 1000000 in
theorem pad_c (w : World) (A : Option Addr) (l : List UInt8) (c : Nat) (x : UInt8) (hr : Bs w A l) (hn : l.length ≤ 1000000) (h1 : (oddF 5).p w) (h0 : (firstF 2).p w) :
    Con Tryz.prog n_hmac_pad #[.slice A l.length c, byte x] w [] fun v Fs => ∃ b junk, v = .slice (some ⟨b, 0, none⟩) 64 64 ∧ Fs = [bkF b ty_uint8 ((padL l x).map byte ++ junk)] := by
  have g := good_hmac_pad w (Un [])
  refine con_of_sx (cx := cx_hmac_pad w (Un [])) g b_hmac_pad rfl rfl (β := Va.z) [.c (.v (.slice A l.length c)), .c (.v (byte x))] 0 [] [oldF w] rfl rfl (old_sat rfl) ?_
  refine BIf.dec (fun hlt => ?_) (fun hge => ?_)
  · have hlt0 : (64 : Int) < (l.length : Int) := hlt
    intro b0
    obtain ⟨k, hks⟩ : ∃ k, Sha.sum l = k := ⟨_, rfl⟩
    have hk : keyL l = k := by unfold keyL; rw [if_pos (by omega)]; exact hks
    have hk64 : k.length ≤ 64 := by rw [← hk]; exact keyL_len
    refine call_con [] (R := fun v Fs => (∃ A' c', v = .slice A' k.length c' ∧ Fs = [browF ty_uint8 A' k c']) ∧ ∃ w', Mem w' Fs) (fun β w' hs => ((sum1_c w' (some ⟨b0, 0, none⟩) A 1 c l (row_rd (hs.get 0 rfl)) (Rd.old hr (hs.get 1 rfl)) (by omega) (Rd.old h1 (hs.get 1 rfl)) (Rd.old h0 (hs.get 1 rfl))).mono (by rintro v Fs ⟨A', c', rfl, _, _, rfl⟩; exact ⟨A', c', by rw [← hks]; rfl, by rw [hks]⟩)).real) ?_
    rintro v Fs ⟨⟨A2, c2, rfl, rfl⟩, w9, hm9⟩
    have hkr : ∀ {w'}, (browF ty_uint8 A2 k c2).p w' → Bs w' A2 k := fun h => row_rd h
    have hka : 0 < k.length → ∃ ad, A2 = some ad := fun h => Bs.addr (hkr (hm9.fact _ List.mem_cons_self)) h
    intro b1
    refine call_con [] (fun β w' hs => repeat64_c w' (some ⟨b1, 0, none⟩) 1 x (row_rd (hs.get 0 rfl))) ?_
    rintro v Fs ⟨b, junk, rfl, rfl⟩
    refine loop_rule (ι := Nat) 0 (fun i => [(17, .c (.v (.slice A2 k.length c2))), (18, .c (.v (.int .i64 (k.length : Int)))), (19, .c (.v (.int .i64 (i : Int)))), (5, .c (.v (.slice (some ⟨b, 0, none⟩) 64 64)))]) (fun _ => []) (fun i => [bkF b ty_uint8 ((padN k x i).map byte ++ junk), browF ty_uint8 A2 k c2])
      (fun i => i ≤ k.length) (fun i => k.length - i) 0 (Nat.zero_le _) (Ent.mk' ⟨rfl, rfl, rfl, rfl, trivial⟩ rfl (fun β w' hs => by rw [padN_0]; exact hs.perm [0, 2])) g ?_
    intro i hi
    refine BIf.dec (fun hlt2 => ?_) (fun hge2 => ?_)
    · have hlt0 : (i : Int) < (k.length : Int) := hlt2
      have hik : i < k.length := by omega
      obtain ⟨y, hy, _⟩ := at_lt hik
      obtain ⟨ad, hA⟩ := hka (by omega)
      refine ⟨ad, i, hA, rfl, hik, byte y, fun β w' hs => by
        have h := hkr (hs.get 1 rfl)
        rw [hA] at h
        exact Rd.cell1 h (by rw [List.getElem?_map, hy]; rfl), ?_⟩
      refine ⟨⟨b, 0, none⟩, i, rfl, rfl, by omega, byte x, fun β w' hs => by
        have h := bk_bs (hs.get 0 rfl)
        exact Rd.cell1 h (by rw [List.getElem?_map, padN_at hik (by omega)]; rfl), _, xor8 x y, ?_⟩
      refine ⟨⟨b, 0, none⟩, i, rfl, rfl, by omega, [bkF b ty_uint8 ((padN k x (i + 1)).map byte ++ junk), browF ty_uint8 A2 k c2], fun β w' hs => ?_, ?_⟩
      · have hpl := padN_len (k := k) (x := x) (i := i) (by omega) (by omega)
        obtain ⟨w2, q1, q2⟩ := hs.bkSet 0 (o := i) (us := [byte (x ^^^ y)]) rfl (by simp only [List.length_append, List.length_map, hpl, List.length_singleton]; omega) (fun u hu => by obtain rfl := List.mem_singleton.1 hu; rfl)
        have e : putAll ((padN k x i).map byte ++ junk) i [byte (x ^^^ y)] = (padN k x (i + 1)).map byte ++ junk := by
          rw [putAll, putAll, putAt_eq, List.set_append_left _ _ (by rw [List.length_map, hpl]; omega), ← padN_set hy (by omega), List.map_set]
        rw [e] at q2
        have q1' : (storeCells ((⟨b, 0, none⟩ : Addr).add (i * 1)) [byte (x ^^^ y)] 0).run (cx_hmac_pad w (Un [])).P w' = .ok () w2 := by rw [Nat.mul_one]; exact q1
        exact ⟨w2, q1', q2⟩
      · refine ⟨((i + 1 : Nat) : Int), by rw [wrap_i64 (by omega) (by omega)]; rfl, ?_⟩
        exact ⟨i + 1, hik, by omega, Ent.same ⟨rfl, rfl, rfl, rfl, trivial⟩ rfl⟩
    · have hge0 : ¬ (i : Int) < (k.length : Int) := hge2
      obtain rfl : i = k.length := by omega
      intro β w' hs
      refine hs.fin [0] ⟨b, junk, rfl, ?_⟩
      rw [padN_all]
      unfold padL
      rw [hk]
      rfl
  · have hge0 : ¬ (64 : Int) < (l.length : Int) := hge
    obtain ⟨k, hks⟩ : ∃ k, l = k := ⟨_, rfl⟩
    have hk : keyL l = k := by unfold keyL; rw [if_neg (by omega)]; exact hks
    have hk64 : k.length ≤ 64 := by rw [← hk]; exact keyL_len
    rw [hks] at hr
    have hlk : l.length = k.length := by rw [hks]
    rw [hlk]
    have hkr : ∀ {w'}, (oldF w).p w' → Bs w' A k := fun h => Rd.old hr h
    have hka : 0 < k.length → ∃ ad, A = some ad := fun h => hr.addr h
    intro b1
    refine call_con [] (fun β w' hs => repeat64_c w' (some ⟨b1, 0, none⟩) 1 x (row_rd (hs.get 0 rfl))) ?_
    rintro v Fs ⟨b, junk, rfl, rfl⟩
    refine loop_rule (ι := Nat) 0 (fun i => [(17, .c (.v (.slice A k.length c))), (18, .c (.v (.int .i64 (k.length : Int)))), (19, .c (.v (.int .i64 (i : Int)))), (5, .c (.v (.slice (some ⟨b, 0, none⟩) 64 64)))]) (fun _ => []) (fun i => [bkF b ty_uint8 ((padN k x i).map byte ++ junk), oldF w])
      (fun i => i ≤ k.length) (fun i => k.length - i) 0 (Nat.zero_le _) (Ent.mk' ⟨rfl, rfl, rfl, rfl, trivial⟩ rfl (fun β w' hs => by rw [padN_0]; exact hs.perm [0, 2])) g ?_
    intro i hi
    refine BIf.dec (fun hlt2 => ?_) (fun hge2 => ?_)
    · have hlt0 : (i : Int) < (k.length : Int) := hlt2
      have hik : i < k.length := by omega
      obtain ⟨y, hy, _⟩ := at_lt hik
      obtain ⟨ad, hA⟩ := hka (by omega)
      refine ⟨ad, i, hA, rfl, hik, byte y, fun β w' hs => by
        have h := hkr (hs.get 1 rfl)
        rw [hA] at h
        exact Rd.cell1 h (by rw [List.getElem?_map, hy]; rfl), ?_⟩
      refine ⟨⟨b, 0, none⟩, i, rfl, rfl, by omega, byte x, fun β w' hs => by
        have h := bk_bs (hs.get 0 rfl)
        exact Rd.cell1 h (by rw [List.getElem?_map, padN_at hik (by omega)]; rfl), _, xor8 x y, ?_⟩
      refine ⟨⟨b, 0, none⟩, i, rfl, rfl, by omega, [bkF b ty_uint8 ((padN k x (i + 1)).map byte ++ junk), oldF w], fun β w' hs => ?_, ?_⟩
      · have hpl := padN_len (k := k) (x := x) (i := i) (by omega) (by omega)
        obtain ⟨w2, q1, q2⟩ := hs.bkSet 0 (o := i) (us := [byte (x ^^^ y)]) rfl (by simp only [List.length_append, List.length_map, hpl, List.length_singleton]; omega) (fun u hu => by obtain rfl := List.mem_singleton.1 hu; rfl)
        have e : putAll ((padN k x i).map byte ++ junk) i [byte (x ^^^ y)] = (padN k x (i + 1)).map byte ++ junk := by
          rw [putAll, putAll, putAt_eq, List.set_append_left _ _ (by rw [List.length_map, hpl]; omega), ← padN_set hy (by omega), List.map_set]
        rw [e] at q2
        have q1' : (storeCells ((⟨b, 0, none⟩ : Addr).add (i * 1)) [byte (x ^^^ y)] 0).run (cx_hmac_pad w (Un [])).P w' = .ok () w2 := by rw [Nat.mul_one]; exact q1
        exact ⟨w2, q1', q2⟩
      · refine ⟨((i + 1 : Nat) : Int), by rw [wrap_i64 (by omega) (by omega)]; rfl, ?_⟩
        exact ⟨i + 1, hik, by omega, Ent.same ⟨rfl, rfl, rfl, rfl, trivial⟩ rfl⟩
    · have hge0 : ¬ (i : Int) < (k.length : Int) := hge2
      obtain rfl : i = k.length := by omega
      intro β w' hs
      refine hs.fin [0] ⟨b, junk, rfl, ?_⟩
      rw [padN_all]
      unfold padL
      rw [hk]
      rfl
theorem join2_c (w : World) (b : Nat) (A1 A2 : Option Addr) (l1 l2 : List UInt8) (c1 c2 : Nat) (hP : Rd 1 (some ⟨b, 0, none⟩) 2 [.slice A1 l1.length c1, .slice A2 l2.length c2] w) (h1 : Bs w A1 l1) (h2 : Bs w A2 l2) (hn : l1.length + l2.length ≤ 100000000) :
    Con Tryz.prog n_bytes_Join #[.slice (some ⟨b, 0, none⟩) 2 2, .slice none 0 0] w [] (readOut (l1 ++ l2)) := by
  have h := joinN_c w b 2 [.slice A1 l1.length c1, .slice A2 l2.length c2] [l1, l2] hP (fun i v l hv hl => by
    match i with
    | 0 => cases hv; cases hl; exact Bs.holds h1 c1
    | 1 => cases hv; cases hl; exact Bs.holds h2 c2
    | n + 2 => simp at hv) (Nat.le_refl 2) (Nat.le_refl 2) (by show 2 ≤ 1000; decide) (by simp; omega)
  have e : [l1, l2].flatten = l1 ++ l2 := by simp
  rw [e] at h
  exact h
theorem join1R_c (w : World) (P A : Option Addr) (cP c : Nat) (l : List UInt8) (hP : Rd 1 P 1 [.slice A l.length c] w) (hr : Bs w A l) (hn : l.length ≤ 100000000) :
    Con Tryz.prog n_bytes_Join #[.slice P 1 cP, .slice none 0 0] w [] (readOut l) := by
  refine Calls.mono (join1_c w P A cP c l hP hr (by omega)) ?_
  rintro e w' ⟨v, rfl, hf⟩
  refine ⟨v, rfl, hf.recast ?_⟩
  rintro Fs ⟨A', c', rfl, q1, q2, rfl⟩ hp
  exact ⟨[rdoF 1 A' l.length (l.map byte)], ⟨A', c', rfl, q1, q2, rfl⟩, .cons ⟨rfl, fun h => row_rd h, browRoD (hp _ List.mem_cons_self)⟩ .nil⟩
theorem hsum_c (w : World) (A P : Option Addr) (key text : List UInt8) (c nP cP : Nat) (hr : Bs w A key) (hk : key.length ≤ 1000000) (ht : text.length ≤ 1000000) (hj : ∀ w', (oldF w).p w' → Con Tryz.prog n_bytes_Join #[.slice P nP cP, .slice none 0 0] w' [] (readOut text)) (h1 : (oddF 5).p w) (h0 : (firstF 2).p w) :
    Con Tryz.prog n_hmac_Sum #[.slice A key.length c, .slice P nP cP] w [] fun v Fs => ∃ A' c', v = .slice A' 32 c' ∧ 32 ≤ c' ∧ c' ≤ maxLen ∧ Fs = [browF ty_uint8 A' (hmL key text) c'] := by
  have g := good_hmac_Sum w (Un [])
  refine con_of_sx (cx := cx_hmac_Sum w (Un [])) g b_hmac_Sum rfl rfl (β := Va.z) [.c (.v (.slice A key.length c)), .c (.v (.slice P nP cP))] 0 [] [oldF w] rfl rfl (old_sat rfl) ?_
  refine call_con [] (fun β w' hs => pad_c w' A key c 0x36 (Rd.old hr (hs.get 0 rfl)) hk (Rd.old h1 (hs.get 0 rfl)) (Rd.old h0 (hs.get 0 rfl))) ?_
  rintro v Fs ⟨p1, j1, rfl, rfl⟩
  refine call_con [] (fun β w' hs => hj w' (hs.get 1 rfl)) ?_
  rintro v Fs ⟨A1, c1, rfl, _, _, rfl⟩
  intro b1
  have l64 : ∀ x, (padL key x).length = 64 := padL_len key
  refine call_con [] (fun β w' hs => sumJ_c w' (some ⟨b1, 0, none⟩) 2 2 (padL key 0x36 ++ text) (fun w2 ho => by
    have q := join2_c w2 b1 (some ⟨p1, 0, none⟩) A1 (padL key 0x36) text 64 c1 (by rw [l64]; exact Rd.old (row_rd (hs.get 0 rfl)) ho) (Rd.old (bk_bs (hs.get 2 rfl)) ho) (Rd.old (rdo_rd (hs.get 1 rfl)) ho) (by rw [l64]; omega)
    exact q) (by rw [List.length_append, l64]; omega) (Rd.old h1 (hs.get 3 rfl)) (Rd.old h0 (hs.get 3 rfl))) ?_
  rintro v Fs ⟨A2, c2, rfl, _, _, rfl⟩
  refine call_con [] (fun β w' hs => pad_c w' A key c 0x5c (Rd.old hr (hs.get 4 rfl)) hk (Rd.old h1 (hs.get 4 rfl)) (Rd.old h0 (hs.get 4 rfl))) ?_
  rintro v Fs ⟨p2, j2, rfl, rfl⟩
  intro b2
  have ls : (Sha.sum (padL key 0x36 ++ text)).length = 32 := sum_len _
  refine call_con [] (fun β w' hs => sumJ_c w' (some ⟨b2, 0, none⟩) 2 2 (padL key 0x5c ++ Sha.sum (padL key 0x36 ++ text)) (fun w2 ho => by
    have q := join2_c w2 b2 (some ⟨p2, 0, none⟩) A2 (padL key 0x5c) (Sha.sum (padL key 0x36 ++ text)) 64 c2 (by rw [l64, ls]; exact Rd.old (row_rd (hs.get 0 rfl)) ho) (Rd.old (bk_bs (hs.get 1 rfl)) ho) (Rd.old (row_rd (hs.get 2 rfl)) ho) (by rw [l64, ls]; decide)
    exact q) (by rw [List.length_append, l64, ls]; decide) (Rd.old h1 (hs.get 6 rfl)) (Rd.old h0 (hs.get 6 rfl))) ?_
  rintro v Fs ⟨A3, c3, rfl, h5, h6, rfl⟩
  intro β w' hs
  exact hs.fin [0] ⟨A3, c3, rfl, h5, h6, rfl⟩
end Go.Proofs.YteenjgfbbkdlhaaGreatDoor.Sx
