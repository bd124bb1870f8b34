/- Texts joined: Sha2, Sha3, Sha4, Sha5, Sha6, Sha7, Sha8, Sha9, Pd0, Pd4, Pd5, Nam1, Nam2, Nam3, Nam4, Nam5, Nam6, Nam7, Nam8, Nam9, RnP, NamP, Rn1, SxTri, Rn2, Rn3, Rn4, Rn5, RoF, StoL, Sto1, Sto2, Mk1, StepG, Bk2, Box1, Box2, Join, Bk3, SumJ, HmL, Rep, Rep2, Hm1, Bk4, Bk5, Srt, Bk6, Bk7, Bk8, Bk9, Xor, Hm2, Hm3, Hsh, Hsh2, Hsh3, Mac, Pie, Pie2, Str, Trn, Turn, Ak5, Ak6. -/
import Derived.Test.YthkjfepbmnabkaaGreatDoorMPC2
import Derived.Lib.MakeNoZero
import Derived.Laws.Externs
import Derived.Sort.OwnSortedInts
set_option linter.unusedVariables false
set_option linter.unusedSimpArgs false
/- A block's words. -/
namespace Go.Proofs.YthkjfepbmnabkaaGreatDoor.Sx
open Go Sha
attribute [local irreducible] Calls

def sl32 (x : UInt32) : SL := .v (u32 x)
def arr (n : Nat) (ws : List UInt32) : List SL := (ws ++ List.replicate (n - ws.length) 0).map sl32
theorem arr_len {n : Nat} {ws : List UInt32} (h : ws.length ≤ n) : (arr n ws).length = n := by simp [arr]; omega
theorem arr_get {n : Nat} {ws : List UInt32} {i : Nat} (h : i < ws.length) : (arr n ws)[i]? = some (sl32 (ws.getD i 0)) := by
  simp only [arr, List.getElem?_map]
  rw [List.getElem?_append_left h, List.getElem?_eq_getElem h]
  simp [List.getD, List.getElem?_eq_getElem h]
theorem arr_set {n : Nat} {ws : List UInt32} (h : ws.length < n) (x : UInt32) : (arr n ws).set ws.length (sl32 x) = arr n (ws ++ [x]) := by
  obtain ⟨k, rfl⟩ : ∃ k, n = ws.length + (k + 1) := ⟨n - ws.length - 1, by omega⟩
  simp only [arr, List.length_append, List.length_cons, List.length_nil]
  rw [show ws.length + (k + 1) - ws.length = k + 1 by omega, show ws.length + (k + 1) - (ws.length + (0 + 1)) = k by omega, List.replicate_succ]
  simp
theorem arr_full {n : Nat} {ws : List UInt32} (h : ws.length = n) : arr n ws = ws.map sl32 := by simp [arr, h]
theorem arr_one (ws : List UInt32) : allOne (ws.map sl32) = true := allOne_of fun x hx => by obtain ⟨y, _, rfl⟩ := List.mem_map.1 hx; rfl
theorem arr_val (β : Va) (ws : List UInt32) : (ws.map sl32).map (SL.val β) = ws.map u32 := by rw [List.map_map]; rfl
theorem getD_drop (l : List UInt8) (i j : Nat) (h : i + j < l.length) : (l.drop i)[j]? = some (l.getD (i + j) 0) := by
  rw [List.getElem?_drop, List.getElem?_eq_getElem h]
  simp [List.getD, List.getElem?_eq_getElem h]

theorem spread_c (w : World) (A : Option Addr) (l : List UInt8) (c : Nat) (hr : Bs w A l) (hc : l.length ≤ c) (hl : 64 ≤ l.length) (hm : c ≤ maxLen) :
    Pu Tryz.prog n_sha_spread #[.slice A l.length c] w (.agg ((W l).map u32).toArray) := by
  obtain ⟨ws, hws⟩ : ∃ ws, W l = ws := ⟨_, rfl⟩
  have hwl : ws.length = 64 := by rw [← hws]; exact W_len l
  rw [hws]
  have g := good_sha_spread w None_
  refine pu_of (calls_of_sx (cx := cx_sha_spread w None_) g b_sha_spread rfl rfl (β := Va.z) [.c (.v (.slice A l.length c))] 0 [] [bsF A l] rfl rfl ((Sat.start rfl).rd (fun _ h => by cases h) hr) ?_)
  have e0 : arr 64 [] = ti251.zero.map SL.v := by simp only [arr, List.nil_append, List.length_nil, List.map_replicate]; rfl
  refine loop_rule (ι := Nat) 2 (fun i => [(0, .c (.v (.slice A l.length c))), (2, .c (.p 0 0)), (3, .c (.p 1 0)), (10, .c (.v (.int .i64 i)))]) (fun i => [⟨1, 251, arr 64 (sched l i)⟩, ⟨0, 251, arr 64 []⟩]) (fun _ => [bsF A l])
    (fun i => i ≤ 16) (fun i => 16 - i) 0 (Nat.zero_le _) (Ent.mk' ⟨rfl, rfl, rfl, rfl, trivial⟩ rfl (fun β w' hs => by rw [show sched l 0 = [] from rfl, e0]; exact hs)) g ?_
  intro i hi
  refine BIf.dec (fun hlt => ?_) (fun hge => ?_)
  · have hlt : i < 16 := by omega
    rw [maxLen_eq] at hm
    refine ⟨((4 * i : Nat) : Int), by rw [wrap_i64 (by omega) (by omega)]; omega, ?_⟩
    refine ⟨c, l.length, 4 * i, (l.drop (4 * i)).length, c - 4 * i, _, rfl, rfl, rfl, Nat.le_refl _, hc, by omega, by rw [List.length_drop], rfl, rfl, ?_⟩
    refine call_pu (fun β w' hs => word_c w' _ (l.drop (4 * i)) _ (Bs.cutB (hs.get 0 rfl : Bs w' A l) (j := l.length) hc (by omega) (Nat.le_refl _) (by rw [List.take_of_length_le (by simp)])) _ _ _ _
      (getD_drop l (4 * i) 0 (by omega)) (getD_drop l (4 * i) 1 (by omega)) (getD_drop l (4 * i) 2 (by omega)) (getD_drop l (4 * i) 3 (by omega))) ?_
    refine ⟨i, rfl, by omega, ?_⟩
    have hsl : (sched l i).length = i := sched_len l i
    refine m_true (b := Nat.ble (0 + i * 1 + 1) (arr 64 (sched l i)).length) (by rw [arr_len (by omega), Nat.ble_eq]; omega) ?_
    refine ⟨((i + 1 : Nat) : Int), by rw [wrap_i64 (by omega) (by omega)]; rfl, ?_⟩
    refine ⟨i + 1, by omega, by omega, Ent.mk' ⟨rfl, rfl, rfl, rfl, trivial⟩ rfl (fun β w' hs => ?_)⟩
    have e1 : putAll (arr 64 (sched l i)) (0 + i * 1) [sl32 (wordAt l i)] = arr 64 (sched l (i + 1)) := by
      rw [putAll, putAll, putAt_eq, Nat.zero_add, Nat.mul_one]
      have := arr_set (n := 64) (ws := sched l i) (by omega) (wordAt l i)
      rw [hsl] at this
      rw [this, sched, if_pos hlt]
    rw [← e1]
    exact hs
  · obtain rfl : i = 16 := by omega
    rw [maxLen_eq] at hm
    refine loop_rule (ι := Nat) 2 (fun i => [(0, .c (.v (.slice A l.length c))), (2, .c (.p 0 0)), (3, .c (.p 1 0)), (5, .c (.v (.int .i64 i)))]) (fun i => [⟨1, 251, arr 64 (sched l i)⟩, ⟨0, 251, arr 64 []⟩]) (fun _ => [bsF A l])
      (fun i => 16 ≤ i ∧ i ≤ 64) (fun i => 64 - i) 16 ⟨by omega, by omega⟩ (Ent.same ⟨rfl, rfl, rfl, rfl, trivial⟩ rfl) g ?_
    rintro i ⟨hi1, hi2⟩
    refine BIf.dec (fun hlt => ?_) (fun hge => ?_)
    · have hlt : i < 64 := by omega
      have hsl : (sched l i).length = i := sched_len l i
      have ld : ∀ {k : Nat}, k < i → nth (arr 64 (sched l i)) (0 + k * 1) = some (sl32 ((sched l i).getD k 0)) := fun {k} hk => by
        rw [nth_eq, Nat.zero_add, Nat.mul_one]; exact arr_get (by omega)
      refine draw_rule g p_sha_spread_10 (by kernel_rfl) _ _ Sub.refl ?_
      refine ⟨((i - 15 : Nat) : Int), by rw [wrap_i64 (by omega) (by omega)]; omega, i - 15, rfl, by omega, ?_⟩
      conv => whnf
      generalize hn : nth _ _ = o
      obtain rfl : o = some (sl32 ((sched l i).getD (i - 15) 0)) := hn.symm.trans (ld (by omega))
      clear hn
      refine ⟨((i - 2 : Nat) : Int), by rw [wrap_i64 (by omega) (by omega)]; omega, i - 2, rfl, by omega, ?_⟩
      conv => whnf
      generalize hn : nth _ _ = o
      obtain rfl : o = some (sl32 ((sched l i).getD (i - 2) 0)) := hn.symm.trans (ld (by omega))
      clear hn
      obtain ⟨xa, hxa⟩ : ∃ xa, (sched l i).getD (i - 15) 0 = xa := ⟨_, rfl⟩
      obtain ⟨xb, hxb⟩ : ∃ xb, (sched l i).getD (i - 2) 0 = xb := ⟨_, rfl⟩
      rw [hxa, hxb]
      refine call_pu (fun β w' hs => rotl_c w' xa 7 (by omega) (by omega)) ?_
      refine call_pu (fun β w' hs => rotl_c w' xa 18 (by omega) (by omega)) ?_
      refine ⟨_, xor32 _ _, by omega, _, shr32 xa 3 (by omega), _, xor32 _ _, ?_⟩
      refine call_pu (fun β w' hs => rotl_c w' xb 17 (by omega) (by omega)) ?_
      refine call_pu (fun β w' hs => rotl_c w' xb 19 (by omega) (by omega)) ?_
      refine ⟨_, xor32 _ _, by omega, _, shr32 xb 10 (by omega), _, xor32 _ _, ?_⟩
      refine draw_rule g p_sha_spread_13 (by kernel_rfl) _ _ Sub.refl ?_
      refine ⟨((i - 16 : Nat) : Int), by rw [wrap_i64 (by omega) (by omega)]; omega, i - 16, rfl, by omega, ?_⟩
      conv => whnf
      generalize hn : nth _ _ = o
      obtain rfl : o = some (sl32 ((sched l i).getD (i - 16) 0)) := hn.symm.trans (ld (by omega))
      clear hn
      refine ⟨_, add32 _ _, ?_⟩
      refine ⟨((i - 7 : Nat) : Int), by rw [wrap_i64 (by omega) (by omega)]; omega, i - 7, rfl, by omega, ?_⟩
      conv => whnf
      generalize hn : nth _ _ = o
      obtain rfl : o = some (sl32 ((sched l i).getD (i - 7) 0)) := hn.symm.trans (ld (by omega))
      clear hn
      refine ⟨_, add32 _ _, _, add32 _ _, i, rfl, by omega, ?_⟩
      refine m_true (b := Nat.ble (0 + i * 1 + 1) (arr 64 (sched l i)).length) (by rw [arr_len (by omega), Nat.ble_eq]; omega) ?_
      refine ⟨((i + 1 : Nat) : Int), by rw [wrap_i64 (by omega) (by omega)]; rfl, ?_⟩
      refine ⟨i + 1, ⟨by omega, by omega⟩, by omega, Ent.mk' ⟨rfl, rfl, rfl, rfl, trivial⟩ rfl (fun β w' hs => ?_)⟩
      have e1 : putAll (arr 64 (sched l i)) (0 + i * 1) [sl32 ((sched l i).getD (i - 16) 0 + s0 xa + (sched l i).getD (i - 7) 0 + s1 xb)] = arr 64 (sched l (i + 1)) := by
        rw [putAll, putAll, putAt_eq, Nat.zero_add, Nat.mul_one]
        have := arr_set (n := 64) (ws := sched l i) (by omega) ((sched l i).getD (i - 16) 0 + s0 xa + (sched l i).getD (i - 7) 0 + s1 xb)
        rw [hsl] at this
        rw [this, sched, if_neg (by omega), nxt, hxa, hxb]
      rw [← e1]
      exact hs
    · have hi64 : i = 64 := by omega
      have e2 : arr 64 (sched l i) = ws.map sl32 := by
        rw [← hws, hi64]
        exact arr_full (sched_len l 64)
      clear hi64 hi1 hi2 hge
      rw [e2]
      conv => whnf
      generalize hn : takeAt _ _ _ = o
      obtain rfl : o = some (ws.map sl32) := hn.symm.trans (takeAt_all (by rw [List.length_map, hwl]; rfl))
      clear hn
      conv => whnf
      generalize h1 : Nat.beq _ _ = b1
      generalize h2 : allOne _ = b2
      obtain rfl : b1 = true := h1.symm.trans (by rw [List.length_map, hwl]; rfl)
      obtain rfl : b2 = true := h2.symm.trans (arr_one ws)
      clear h1 h2
      conv => whnf
      generalize h1 : Nat.ble _ _ = b1
      obtain rfl : b1 = true := h1.symm.trans (by rw [List.length_map, hwl]; rfl)
      clear h1
      conv => whnf
      generalize hn : resOf _ _ _ _ = o
      obtain rfl : o = some [.agg (ws.map sl32)] := hn.symm.trans (by
        have hp : putAll (arr 64 []) 0 (ws.map sl32) = ws.map sl32 := putAll_full (by rw [List.length_map, hwl]; rfl)
        show (match takeAt (putAll (arr 64 []) 0 (ws.map sl32)) 0 64 with | some xs => some [SV.agg xs] | none => none) = _
        rw [hp, takeAt_all (by rw [List.length_map, hwl])])
      clear hn
      intro β w' hs
      refine ⟨?_, hs.chg⟩
      show Value.agg ((ws.map sl32).map (SL.val β)).toArray = _
      rw [arr_val]
end Go.Proofs.YthkjfepbmnabkaaGreatDoor.Sx

/- A block's step. -/
namespace Go.Proofs.YthkjfepbmnabkaaGreatDoor.Sx
open Go Sha
attribute [local irreducible] Calls

/-- The table of the rounds' words. -/
def oddF (g : Nat) : Fact := rdF 1 (some ⟨g, 0, none⟩) 64 (K.map u32)
/-- A state's block. -/
def stF (b ty : Nat) (s : S8) : Fact := bkF b ty (s.l.map u32)

theorem rounds_succ (s : S8) (w : List UInt32) (n : Nat) : rounds s w (n + 1) = (rounds s w n).round (K.getD n 0) (w.getD n 0) := rfl
theorem K_len : K.length = 64 := rfl
theorem odd_cell {g : Nat} {w : World} (h : (oddF g).p w) {i : Nat} (hi : i < 64) : w.cell? ((⟨g, 0, none⟩ : Addr).add (i * 1)) = some (u32 (K.getD i 0)) := by
  obtain ⟨_, h2⟩ := h
  obtain ⟨ad, q, hc⟩ := h2 (by omega)
  obtain rfl := Option.some.inj q
  rw [Nat.mul_one]
  refine hc i _ ?_
  rw [List.getElem?_map, List.getElem?_eq_getElem (by rw [K_len]; exact hi)]
  simp [List.getD, List.getElem?_eq_getElem (show i < K.length by rw [K_len]; exact hi)]

def mix (s t : S8) (i : Nat) : List SL := ((s.add t).l.take i ++ s.l.drop i).map sl32
theorem mix_len (s t : S8) : ∀ i, i < 9 → (mix s t i).length = 8
  | 0, _ => rfl | 1, _ => rfl | 2, _ => rfl | 3, _ => rfl | 4, _ => rfl | 5, _ => rfl | 6, _ => rfl | 7, _ => rfl | 8, _ => rfl
  | n + 9, h => by omega
theorem mix_get (s t : S8) : ∀ i, i < 8 → nth (mix s t i) i = some (sl32 (s.l.getD i 0))
  | 0, _ => rfl | 1, _ => rfl | 2, _ => rfl | 3, _ => rfl | 4, _ => rfl | 5, _ => rfl | 6, _ => rfl | 7, _ => rfl
  | n + 8, h => by omega
theorem mix_set (s t : S8) : ∀ i, i < 8 → putAll (mix s t i) i [sl32 (s.l.getD i 0 + t.l.getD i 0)] = mix s t (i + 1)
  | 0, _ => rfl | 1, _ => rfl | 2, _ => rfl | 3, _ => rfl | 4, _ => rfl | 5, _ => rfl | 6, _ => rfl | 7, _ => rfl
  | n + 8, h => by omega
theorem l_get (t : S8) : ∀ i, i < 8 → (t.l.map sl32)[i]? = some (sl32 (t.l.getD i 0))
  | 0, _ => rfl | 1, _ => rfl | 2, _ => rfl | 3, _ => rfl | 4, _ => rfl | 5, _ => rfl | 6, _ => rfl | 7, _ => rfl
  | n + 8, h => by omega
theorem step_c (w : World) (b ty : Nat) (s : S8) (A : Option Addr) (l : List UInt8) (c : Nat) (hm : Mem w [stF b ty s, bsF A l, oddF 2]) (hc : l.length ≤ c) (hl : 64 ≤ l.length) (hcm : c ≤ maxLen) :
    Con Tryz.prog n_sha_state_step #[.pointer (some ⟨b, 0, none⟩), .slice A l.length c] w [stF b ty s] fun v Fs => v = .tuple #[] ∧ Fs = [stF b ty (Sha.step s l)] := by
  obtain ⟨ws, hws⟩ : ∃ ws, W l = ws := ⟨_, rfl⟩
  have hwl : ws.length = 64 := by rw [← hws]; exact W_len l
  have g := good_sha_state_step w (Un [stF b ty s]) (bs := [b])
  have hs0 : Sat (cx_sha_state_step w (Un [stF b ty s]) [b]) (Va.of fun _ => b) 1 [] [stF b ty s, bsF A l, oddF 2] w :=
    hm.sat rfl (ownIn (Gs := [stF b ty s]) (Rs := [bsF A l, oddF 2]) (fun g hg => by
      rcases List.mem_cons.1 hg with rfl | hg
      · rfl
      · obtain rfl := List.mem_singleton.1 hg; rfl)) ⟨Nat.le_refl _, fun i hi => by
        have hi1 : i < 1 := hi
        have hi0 : i = 0 := by omega
        rw [hi0]; rfl⟩
  have hs1 := hs0.toBk 0 rfl 0 Nat.zero_lt_one rfl
  refine con_of_sx (cx := cx_sha_state_step w (Un [stF b ty s]) [b]) g b_sha_state_step rfl rfl (β := Va.of fun _ => b) [.c (.p 0 0), .c (.v (.slice A l.length c))] 1 [⟨0, ty, s.l.map sl32⟩] [bsF A l, oddF 2] rfl rfl (by rw [List.map_map] at hs1; exact hs1) ?_
  refine call_pu (fun β w' hs => spread_c w' A l c (hs.get 0 rfl) hc hl hcm) ?_
  rw [hws]
  have ea : ofValue (.agg (ws.map u32).toArray) = .agg (ws.map sl32) := by simp only [ofValue, List.map_map]; rfl
  rw [ea]
  conv => whnf
  generalize h1 : Nat.beq _ _ = b1
  generalize h2 : allOne _ = b2
  obtain rfl : b1 = true := h1.symm.trans (by rw [List.length_map, hwl]; rfl)
  obtain rfl : b2 = true := h2.symm.trans (arr_one ws)
  clear h1 h2
  conv => whnf
  generalize h1 : Nat.ble _ _ = b1
  obtain rfl : b1 = true := h1.symm.trans (by rw [List.length_map, hwl]; rfl)
  clear h1
  refine draw_rule g p_sha_state_step_1 (by kernel_rfl) _ _ Sub.refl ?_
  refine ⟨0, rfl, by decide, ?_⟩
  refine ⟨1, rfl, by decide, ?_⟩
  refine ⟨2, rfl, by decide, ?_⟩
  refine ⟨3, rfl, by decide, ?_⟩
  refine ⟨4, rfl, by decide, ?_⟩
  refine ⟨5, rfl, by decide, ?_⟩
  refine ⟨6, rfl, by decide, ?_⟩
  refine ⟨7, rfl, by decide, ?_⟩
  have hp : putAll (ti251.zero.map SL.v) 0 (ws.map sl32) = ws.map sl32 := putAll_full (by rw [List.length_map, hwl]; rfl)
  refine loop_rule (ι := Nat) 2 (fun i => [(0, .c (.p 0 0)), (4, .c (.p 1 0)), (5, .c (sl32 (rounds s ws i).a)), (6, .c (sl32 (rounds s ws i).b)), (7, .c (sl32 (rounds s ws i).c)), (8, .c (sl32 (rounds s ws i).d)), (9, .c (sl32 (rounds s ws i).e)), (10, .c (sl32 (rounds s ws i).f)), (11, .c (sl32 (rounds s ws i).g)), (12, .c (sl32 (rounds s ws i).h)), (55, .c (.v (.int .i64 i)))])
    (fun _ => [⟨1, 251, ws.map sl32⟩, ⟨0, ty, s.l.map sl32⟩]) (fun _ => [bsF A l, oddF 2])
    (fun i => i ≤ 64) (fun i => 64 - i) 0 (Nat.zero_le _) (Ent.mk' ⟨rfl, rfl, rfl, rfl, rfl, rfl, rfl, rfl, rfl, rfl, rfl, trivial⟩ rfl (fun β w' hs => by rw [← hp]; exact hs)) g ?_
  intro i hi
  obtain ⟨r, hr⟩ : ∃ r, rounds s ws i = r := ⟨_, rfl⟩
  rw [hr]
  obtain ⟨xa, xb, xc, xd, xe, xf, xg, xh⟩ := r
  refine BIf.dec (fun hlt => ?_) (fun hge => ?_)
  · have hlt : i < 64 := by omega
    refine call_pu (fun β w' hs => rotl_c w' xe 6 (by omega) (by omega)) ?_
    refine call_pu (fun β w' hs => rotl_c w' xe 11 (by omega) (by omega)) ?_
    refine ⟨_, xor32 _ _, ?_⟩
    refine call_pu (fun β w' hs => rotl_c w' xe 25 (by omega) (by omega)) ?_
    refine ⟨_, xor32 _ _, ?_⟩
    refine ⟨_, and32 _ _, _, not32 _, _, and32 _ _, _, xor32 _ _, ?_⟩
    refine draw_rule g p_sha_state_step_7 (by kernel_rfl) _ _ Sub.refl ?_
    refine ⟨_, add32 _ _, _, add32 _ _, i, rfl, hlt, u32 (K.getD i 0), fun β w' hs => odd_cell (hs.get 1 rfl) hlt, _, add32 _ _, i, rfl, hlt, ?_⟩
    conv => whnf
    generalize hn : nth _ _ = o
    obtain rfl : o = some (sl32 (ws.getD i 0)) := hn.symm.trans (by
      show nth (ws.map sl32) (0 + i * 1) = _
      rw [nth_eq, Nat.zero_add, Nat.mul_one, List.getElem?_map, List.getElem?_eq_getElem (by omega)]
      simp [List.getD, List.getElem?_eq_getElem (show i < ws.length by omega)])
    clear hn
    refine ⟨_, add32 _ _, ?_⟩
    refine call_pu (fun β w' hs => rotl_c w' xa 2 (by omega) (by omega)) ?_
    refine call_pu (fun β w' hs => rotl_c w' xa 13 (by omega) (by omega)) ?_
    refine ⟨_, xor32 _ _, ?_⟩
    refine call_pu (fun β w' hs => rotl_c w' xa 22 (by omega) (by omega)) ?_
    refine ⟨_, xor32 _ _, ?_⟩
    refine ⟨_, and32 _ _, _, and32 _ _, _, xor32 _ _, _, and32 _ _, _, xor32 _ _, ?_⟩
    refine ⟨_, add32 _ _, _, add32 _ _, _, add32 _ _, ?_⟩
    refine ⟨((i + 1 : Nat) : Int), by rw [wrap_i64 (by omega) (by omega)]; rfl, ?_⟩
    refine ⟨i + 1, by omega, by omega, Ent.same ?_ rfl⟩
    rw [rounds_succ, hr]
    exact ⟨rfl, rfl, rfl, rfl, rfl, rfl, rfl, rfl, rfl, rfl, rfl, trivial⟩
  · obtain ⟨t, ht⟩ : ∃ t, (⟨xa, xb, xc, xd, xe, xf, xg, xh⟩ : S8) = t := ⟨_, rfl⟩
    have hst : Sha.step s l = s.add t := by
      have : i = 64 := by omega
      rw [Sha.step, hws, ← ht, ← hr, this]
    rw [hst]
    refine loop_rule (ι := Nat) 2 (fun i => [(0, .c (.p 0 0)), (129, .agg [sl32 xa, sl32 xb, sl32 xc, sl32 xd, sl32 xe, sl32 xf, sl32 xg, sl32 xh]), (130, .c (.v (.int .i64 i)))])
      (fun i => [⟨1, 251, ws.map sl32⟩, ⟨0, ty, mix s t i⟩]) (fun _ => [bsF A l, oddF 2])
      (fun i => i ≤ 8) (fun i => 8 - i) 0 (Nat.zero_le _) (Ent.same ⟨rfl, rfl, rfl, trivial⟩ rfl) g ?_
    intro j hj
    refine BIf.dec (fun hlt => ?_) (fun hge => ?_)
    · have hlt : j < 8 := by omega
      refine ⟨j, sl32 (t.l.getD j 0), rfl, hlt, by rw [← ht]; show ((⟨xa, xb, xc, xd, xe, xf, xg, xh⟩ : S8).l.map sl32)[j * 1]? = _; rw [Nat.mul_one]; exact l_get _ j hlt, ?_⟩
      refine draw_rule g p_sha_state_step_15 (by kernel_rfl) [] [bsF A l, oddF 2] (Sub.of (List.nil_sublist _) (List.Sublist.refl _)) ?_
      refine ⟨j, rfl, hlt, ?_⟩
      conv => whnf
      generalize hn : nth _ _ = o
      obtain rfl : o = some (sl32 (s.l.getD j 0)) := hn.symm.trans (by
        show nth (mix s t j) (0 + j * 1) = _
        rw [Nat.zero_add, Nat.mul_one]
        exact mix_get s t j hlt)
      clear hn
      refine ⟨Sub.of (List.nil_sublist _) (List.Sublist.refl _), _, add32 _ _, j, rfl, hlt, ?_⟩
      conv => whnf
      generalize h1 : Nat.ble _ _ = b1
      obtain rfl : b1 = true := h1.symm.trans (by
        show Nat.ble (0 + j * 1 + 1) (mix s t j).length = true
        rw [mix_len s t j (by omega), Nat.ble_eq]; omega)
      clear h1
      refine ⟨Sub.of (List.nil_sublist _) (List.Sublist.refl _), ?_⟩
      refine ⟨((j + 1 : Nat) : Int), by rw [wrap_i64 (by omega) (by omega)]; rfl, ?_⟩
      refine ⟨j + 1, by omega, by omega, Ent.mk' ⟨rfl, rfl, rfl, trivial⟩ rfl (fun β w' hs => ?_)⟩
      have e1 := mix_set s t j hlt
      rw [← e1]
      have e3 : 0 + j * 1 = j := by omega
      have hs2 : Sat (cx_sha_state_step w (Un [stF b ty s]) [b]) β 2 [⟨1, 251, ws.map sl32⟩, ⟨0, ty, putAll (mix s t j) (0 + j * 1) [sl32 (s.l.getD j 0 + t.l.getD j 0)]⟩] [bsF A l, oddF 2] w' := hs
      rw [e3] at hs2
      exact hs2
    · obtain rfl : j = 8 := by omega
      intro β w' hs
      have h1 := hs.weaken (List.sublist_cons_self _ _) (List.Sublist.refl _)
      have h2 := h1.ofBk
      have hb : β 0 = b := h2.fix.2 0 (Nat.zero_lt_one)
      refine h2.fin [0] ⟨rfl, ?_⟩
      show [bkF (β 0) ty ((mix s t 8).map (SL.val β))] = [stF b ty (s.add t)]
      rw [hb]
      rfl
end Go.Proofs.YthkjfepbmnabkaaGreatDoor.Sx

/- A state's bytes; a number's; what stands behind a text. -/
namespace Go.Proofs.YthkjfepbmnabkaaGreatDoor.Sx
open Go Sha
attribute [local irreducible] Calls

theorem u8_of32 (x : UInt32) : IntKind.u8.wrap (x.toNat : Int) = (x.toUInt8.toNat : Int) := by
  rw [show IntKind.u8.wrap (x.toNat : Int) = (x.toNat : Int) % 256 by simp [IntKind.wrap, IntKind.bits, IntKind.signed], UInt32.toNat_toUInt8]
  omega
def outN (s : S8) (i : Nat) : List UInt8 := (s.l.take i).flatMap b4
theorem outN_succ (s : S8) : ∀ i, i < 8 → outN s i ++ b4 (s.l.getD i 0) = outN s (i + 1)
  | 0, _ => rfl | 1, _ => rfl | 2, _ => rfl | 3, _ => rfl | 4, _ => rfl | 5, _ => rfl | 6, _ => rfl | 7, _ => rfl
  | n + 8, h => by omega

theorem stbytes_c (w : World) (b ty : Nat) (s : S8) (hm : Mem w [stF b ty s]) :
    Con Tryz.prog n_sha_state_bytes #[.pointer (some ⟨b, 0, none⟩)] w [stF b ty s] fun v Fs => ∃ A c, v = .slice A 32 c ∧ 32 ≤ c ∧ c ≤ maxLen ∧ Fs = [stF b ty s, browF ty_uint8 A (out s) c] := by
  have g := good_sha_state_bytes w (Un [stF b ty s]) (bs := [b])
  have hs0 : Sat (cx_sha_state_bytes w (Un [stF b ty s]) [b]) (Va.of fun _ => b) 1 [] [stF b ty s] w :=
    hm.sat rfl (ownIn (Gs := [stF b ty s]) (Rs := []) (fun g hg => by cases hg)) ⟨Nat.le_refl _, fun i hi => by
        have hi1 : i < 1 := hi
        have hi0 : i = 0 := by omega
        rw [hi0]; rfl⟩
  have hs1 := hs0.toBk 0 rfl 0 Nat.zero_lt_one rfl
  rw [List.map_map] at hs1
  refine con_of_sx (cx := cx_sha_state_bytes w (Un [stF b ty s]) [b]) g b_sha_state_bytes rfl rfl (β := Va.of fun _ => b) [.c (.p 0 0)] 1 [⟨0, ty, s.l.map sl32⟩] [browF ty_uint8 none [] 0] rfl rfl (hs1.nilRow _ _) ?_
  refine loop_rule (ι := Nat × Option Addr × Nat) 1 (fun i => [(6, .c (.p 0 0)), (7, .c (.v (.int .i64 i.1))), (3, .c (.v (.slice i.2.1 (4 * i.1) i.2.2)))]) (fun _ => [⟨0, ty, s.l.map sl32⟩])
    (fun i => [rowF ty_uint8 1 (.slice i.2.1 (4 * i.1) i.2.2) (4 * i.1) ((outN s i.1).map byte)])
    (fun i => i.1 ≤ 8 ∧ 4 * i.1 ≤ i.2.2 ∧ i.2.2 ≤ maxLen) (fun i => 8 - i.1) (0, none, 0) ⟨Nat.zero_le _, Nat.zero_le _, Nat.zero_le _⟩ (Ent.same ⟨rfl, rfl, rfl, trivial⟩ rfl) g ?_
  rintro ⟨i, A, c⟩ ⟨hi, hc, hcm⟩
  simp only at hi hc hcm
  refine BIf.dec (fun hlt => ?_) (fun hge => ?_)
  · have hlt : i < 8 := by omega
    obtain ⟨x, hx⟩ : ∃ x, s.l.getD i 0 = x := ⟨_, rfl⟩
    refine ⟨i, rfl, hlt, ?_⟩
    conv => whnf
    generalize hn : nth _ _ = o
    obtain rfl : o = some (sl32 x) := hn.symm.trans (by
      show nth (s.l.map sl32) (0 + i * 1) = _
      rw [Nat.zero_add, Nat.mul_one, ← hx, nth_eq]
      exact l_get s i hlt)
    clear hn
    refine ⟨by omega, _, shr32 x 24 (by omega), _, u8_of32 _, by omega, _, shr32 x 16 (by omega), _, u8_of32 _, by omega, _, shr32 x 8 (by omega), _, u8_of32 _, _, u8_of32 _, ?_⟩
    intro b2
    refine ⟨1, 4 * i, 4 * (i + 1), (outN s i).map byte, (b4 x).map byte, _, rfl, fun β w hs => row_rd (hs.get 0 rfl), bytes_one _, by omega, rfl, by rw [maxLen_eq]; omega, by show 4 * (i + 1) * 1 ≤ _; omega, ?_⟩
    intro A' c' h1 h2 _
    refine ⟨((i + 1 : Nat) : Int), by rw [wrap_i64 (by omega) (by omega)]; rfl, ?_⟩
    refine ⟨(i + 1, A', c'), ⟨by show i + 1 ≤ 8; omega, h1, h2⟩, by show 8 - (i + 1) < 8 - i; omega, Ent.mk' ⟨rfl, rfl, rfl, trivial⟩ rfl (fun β w' hs => ?_)⟩
    have e1 := outN_succ s i hlt
    rw [hx] at e1
    have h3 := hs.weaken (List.Sublist.refl _) (List.sublist_cons_self _ _)
    show Sat _ _ _ _ [rowF ty_uint8 1 (.slice A' (4 * (i + 1)) c') (4 * (i + 1)) ((outN s (i + 1)).map byte)] _
    rw [← e1, List.map_append]
    exact h3
  · obtain rfl : i = 8 := by omega
    intro β w' hs
    have h2 := hs.ofBk
    have hb : β 0 = b := h2.fix.2 0 (Nat.zero_lt_one)
    refine h2.fin [0, 1] ⟨A, c, rfl, hc, hcm, ?_⟩
    show [bkF (β 0) ty ((s.l.map sl32).map (SL.val β)), _] = [stF b ty s, _]
    rw [hb]
    rfl

theorem wrap_u8n (x : Nat) : IntKind.u8.wrap (x : Int) = ((UInt8.ofNat x).toNat : Int) := by
  rw [show IntKind.u8.wrap (x : Int) = (x : Int) % 256 by simp [IntKind.wrap, IntKind.bits, IntKind.signed], UInt8.toNat_ofNat']
  omega
theorem wrap_u64' (x : Int) : IntKind.u64.wrap x = x % 18446744073709551616 := by simp [IntKind.wrap, IntKind.bits, IntKind.signed]
theorem longN_succ (n : Nat) : ∀ i, i < 8 → (Sha.long n).take i ++ [UInt8.ofNat (n / 2 ^ (8 * (7 - i)))] = (Sha.long n).take (i + 1)
  | 0, _ => rfl | 1, _ => rfl | 2, _ => rfl | 3, _ => rfl | 4, _ => rfl | 5, _ => rfl | 6, _ => rfl | 7, _ => rfl
  | n + 8, h => by omega
theorem long_c (w : World) (n : Nat) :
    Con Tryz.prog n_sha_long #[.int .u64 n] w [] fun v Fs => ∃ A c, v = .slice A 8 c ∧ 8 ≤ c ∧ c ≤ maxLen ∧ Fs = [browF ty_uint8 A (Sha.long n) c] := by
  have g := good_sha_long w (Un [])
  refine con_of_sx (cx := cx_sha_long w (Un [])) g b_sha_long rfl rfl (β := Va.z) [.c (.v (.int .u64 n))] 0 [] [browF ty_uint8 none [] 0] rfl rfl ((Sat.start rfl).nilRow _ _) ?_
  refine loop_rule (ι := Nat × Option Addr × Nat) 0 (fun i => [(0, .c (.v (.int .u64 n))), (5, .c (.v (.int .i64 i.1))), (3, .c (.v (.slice i.2.1 i.1 i.2.2)))]) (fun _ => [])
    (fun i => [rowF ty_uint8 1 (.slice i.2.1 i.1 i.2.2) i.1 (((Sha.long n).take i.1).map byte)])
    (fun i => i.1 ≤ 8 ∧ i.1 ≤ i.2.2 ∧ i.2.2 ≤ maxLen) (fun i => 8 - i.1) (0, none, 0) ⟨Nat.zero_le _, Nat.zero_le _, Nat.zero_le _⟩ (Ent.same ⟨rfl, rfl, rfl, trivial⟩ rfl) g ?_
  rintro ⟨i, A, c⟩ ⟨hi, hc, hcm⟩
  simp only at hi hc hcm
  refine BIf.dec (fun hlt => ?_) (fun hge => ?_)
  · have hlt : i < 8 := by omega
    refine ⟨((7 - i : Nat) : Int), by rw [wrap_i64 (by omega) (by omega)]; omega, ((8 * (7 - i) : Nat) : Int), by rw [wrap_i64 (by omega) (by omega)]; omega, ?_⟩
    refine ⟨by omega, ((n / 2 ^ (8 * (7 - i)) : Nat) : Int), ?_, _, wrap_u8n _, ?_⟩
    · have h1 : min ((8 * (7 - i) : Nat) : Int).toNat IntKind.u64.bits = 8 * (7 - i) := by show min (8 * (7 - i)) 64 = _; omega
      rw [h1]
      have : (2 ^ (8 * (7 - i)) : Int) = ((2 ^ (8 * (7 - i)) : Nat) : Int) := by push_cast; rfl
      rw [this, Int.fdiv_eq_ediv_of_nonneg _ (Int.natCast_nonneg _)]
      exact (Int.natCast_ediv _ _).symm
    intro b2
    refine ⟨1, i, i + 1, ((Sha.long n).take i).map byte, [UInt8.ofNat (n / 2 ^ (8 * (7 - i)))].map byte, _, rfl, fun β w hs => row_rd (hs.get 0 rfl), bytes_one _, rfl, rfl, by rw [maxLen_eq]; omega, by show (i + 1) * 1 ≤ _; omega, ?_⟩
    intro A' c' h1 h2 _
    refine ⟨((i + 1 : Nat) : Int), by rw [wrap_i64 (by omega) (by omega)]; rfl, ?_⟩
    refine ⟨(i + 1, A', c'), ⟨by show i + 1 ≤ 8; omega, h1, h2⟩, by show 8 - (i + 1) < 8 - i; omega, Ent.mk' ⟨rfl, rfl, rfl, trivial⟩ rfl (fun β w' hs => ?_)⟩
    have h3 := hs.weaken (List.Sublist.refl _) (List.sublist_cons_self _ _)
    show Sat _ _ _ _ [rowF ty_uint8 1 (.slice A' (i + 1) c') (i + 1) (((Sha.long n).take (i + 1)).map byte)] _
    rw [← longN_succ n i hlt, List.map_append]
    exact h3
  · obtain rfl : i = 8 := by omega
    intro β w' hs
    exact hs.fin [0] ⟨A, c, rfl, hc, hcm, rfl⟩

theorem ends_c (w : World) (n : Nat) (hn : n ≤ 140737488355328) :
    Con Tryz.prog n_sha_ends #[.int .u64 n] w [] fun v Fs => ∃ A c, v = .slice A (Sha.ends n).length c ∧ (Sha.ends n).length ≤ c ∧ c ≤ maxLen ∧ Fs = [browF ty_uint8 A (Sha.ends n) c] := by
  have g := good_sha_ends w (Un [])
  have hz : zeros n < 64 := by unfold zeros; omega
  refine con_of_sx (cx := cx_sha_ends w (Un [])) g b_sha_ends rfl rfl (β := Va.z) [.c (.v (.int .u64 n))] 0 [] [] rfl rfl (Sat.start rfl) ?_
  intro b0
  refine loop_rule (ι := Nat × Option Addr × Nat) 0 (fun i => [(0, .c (.v (.int .u64 n))), (3, .c (.v (.slice i.2.1 (i.1 + 1) i.2.2)))]) (fun _ => [])
    (fun i => [rowF ty_uint8 1 (.slice i.2.1 (i.1 + 1) i.2.2) (i.1 + 1) (((0x80 : UInt8) :: List.replicate i.1 0).map byte)])
    (fun i => i.1 ≤ zeros n ∧ i.1 + 1 ≤ i.2.2 ∧ i.2.2 ≤ maxLen) (fun i => zeros n - i.1) (0, some ⟨b0, 0, none⟩, 1) ⟨Nat.zero_le _, Nat.le_refl _, by show 1 ≤ maxLen; decide⟩ (Ent.same ⟨rfl, rfl, trivial⟩ rfl) g ?_
  rintro ⟨i, A, c⟩ ⟨hi, hc, hcm⟩
  simp only at hi hc hcm
  obtain ⟨r, hr⟩ : ∃ r : Nat, (n + (i + 1) + 8) % 64 = r := ⟨_, rfl⟩
  refine ⟨((i + 1 : Nat) : Int), by rw [wrap_u64']; omega, ((n + (i + 1) : Nat) : Int), by rw [wrap_u64']; omega, ((n + (i + 1) + 8 : Nat) : Int), by rw [wrap_u64']; omega, by omega, (r : Int), by rw [Int.tmod_eq_emod_of_nonneg (by omega)]; omega, ?_⟩
  refine BIf.not (BIf.dec (fun h0 => ?_) (fun h0 => ?_))
  · have hiz : i = zeros n := by unfold zeros at *; omega
    refine ⟨((8 * n : Nat) : Int), by rw [wrap_u64']; omega, ?_⟩
    refine call_con [] (fun β w' hs => long_c w' (8 * n)) ?_
    rintro v Fs ⟨A2, c2, rfl, h1, h2, rfl⟩
    have hl : (Sha.ends n).length = i + 1 + 8 := by rw [Sha.ends_len, hiz]; omega
    refine ⟨1, i + 1, (Sha.ends n).length, _, (Sha.long (8 * n)).map byte, (Sha.ends n).map byte, rfl, fun β w hs => row_rd (hs.get 0 rfl), bytes_one _, hl.symm, by rw [← List.map_append, hiz]; rfl, by rw [maxLen_eq, hl]; omega, by show (Sha.ends n).length * 1 ≤ _; omega, ?_⟩
    intro A' c' h3 h4 _
    intro β w' hs
    exact hs.fin [1] ⟨A', c', rfl, h3, h4, rfl⟩
  · have hiz : i < zeros n := by
      rcases Nat.lt_or_ge i (zeros n) with h | h
      · exact h
      · exfalso
        apply h0
        have : i = zeros n := by omega
        subst this
        unfold zeros at hr
        omega
    intro b2
    refine ⟨1, i + 1, i + 1 + 1, ((0x80 : UInt8) :: List.replicate i 0).map byte, [(0 : UInt8)].map byte, _, rfl, fun β w hs => row_rd (hs.get 0 rfl), bytes_one _, rfl, rfl, by rw [maxLen_eq]; omega, by show (i + 1 + 1) * 1 ≤ _; omega, ?_⟩
    intro A' c' h1 h2 _
    refine ⟨(i + 1, A', c'), ⟨hiz, h1, h2⟩, by show zeros n - (i + 1) < zeros n - i; omega, Ent.mk' ⟨rfl, rfl, trivial⟩ rfl (fun β w' hs => ?_)⟩
    have h3 := hs.weaken (List.Sublist.refl _) (List.sublist_cons_self _ _)
    show Sat _ _ _ _ [rowF ty_uint8 1 (.slice A' (i + 1 + 1) c') (i + 1 + 1) (((0x80 : UInt8) :: List.replicate (i + 1) 0).map byte)] _
    rw [List.replicate_succ', ← List.cons_append, List.map_append]
    exact h3
end Go.Proofs.YthkjfepbmnabkaaGreatDoor.Sx

/- A text's blocks. -/
namespace Go.Proofs.YthkjfepbmnabkaaGreatDoor.Sx
open Go Sha
attribute [local irreducible] Calls

theorem clone_c (w : World) (A : Option Addr) (l : List UInt8) (c : Nat) (hr : Bs w A l) (hn : l.length ≤ 140737488355328) :
    Con Tryz.prog n_bytes_Clone #[.slice A l.length c] w [] fun v Fs => ∃ A' c', v = .slice A' l.length c' ∧ l.length ≤ c' ∧ c' ≤ maxLen ∧ Fs = [browF ty_uint8 A' l c'] := by
  refine con_of_sx (cx := cx_bytes_Clone w (Un [])) (good_bytes_Clone w (Un [])) b_bytes_Clone rfl rfl (β := Va.z) [.c (.v (.slice A l.length c))] 0 [] [bsF A l] rfl rfl ((Sat.start rfl).rd (fun _ h => by cases h) hr) ?_
  refine BIf.mk (fun h => ?_) (fun h => ?_)
  · intro β w' hs
    have hA : A = none := by simpa using h
    subst hA
    have hl : l = [] := by
      cases l with
      | nil => rfl
      | cons x r => obtain ⟨ad, q⟩ := Bs.addr hr (by simp); cases q
    subst hl
    exact (hs.nilRow ty_uint8 1).fin [0] ⟨none, 0, rfl, Nat.le_refl _, Nat.zero_le _, rfl⟩
  intro b
  refine ⟨0, 0, l.length, [], l.map byte, _, rfl, fun β w hs => hs.get 1 rfl, bytes_one l, Nat.zero_add _, rfl, by rw [maxLen_eq]; omega, by show l.length * 1 ≤ _; omega, ?_⟩
  intro A' c' h1 h2 h3 β w' hs
  exact hs.fin [0] ⟨A', c', rfl, h1, h2, rfl⟩

def blk (q : List UInt8) (i : Nat) : List UInt8 := (q.drop (64 * i)).take 64
def blks (q : List UInt8) (n : Nat) : List (List UInt8) := (List.range n).map (blk q)
theorem blks_succ (q : List UInt8) (n : Nat) : blks q (n + 1) = blks q n ++ [blk q n] := by simp [blks, List.range_succ]
theorem go_eq : ∀ (n : Nat) (s : S8) (q : List UInt8), go n s q = (blks q n).foldl Sha.step s
  | 0, s, q => rfl
  | n + 1, s, q => by
    rw [go, go_eq n]
    have : blks q (n + 1) = q.take 64 :: blks (q.drop 64) n := by
      simp only [blks, List.range_succ_eq_map, List.map_cons, List.map_map]
      congr 1
      refine List.map_congr_left fun i _ => ?_
      simp only [Function.comp, blk, List.drop_drop]
      rw [show 64 * (i + 1) = 64 + 64 * i by omega]
    rw [this, List.foldl_cons]

def insB (x : List UInt8) (args : Array Value) (X : Fact) : Prop := x.length = 64 ∧ ∃ B, args = #[.slice B 64 64] ∧ X = bsF B x

theorem blocks_it (l : Nat) (w : World) (bx : Nat) (A : Option Addr) (p : List UInt8) (c : Nat) (f0 R : Fact) (J Jx : List (List UInt8) → Fact → Prop) (hJ0 : J [] f0) (hJo : ∀ pre f, J pre f → f.own = true) (hRo : R.own = false) (hY : Yc Tryz.prog l J Jx R (fun _ => insB))
    (hp : p.length ≤ 70368744177664) (hm : Mem w (f0 :: R :: [bkF bx ty_sl_uint8 [.slice A p.length c], bsF A p])) :
    Con Tryz.prog n_sha_Blocks_1 #[.func (.yield l) #[] #[], .pointer (some ⟨bx, 0, none⟩)] w [f0, bkF bx ty_sl_uint8 [.slice A p.length c]]
      (fun _ Fs => ∃ f Fs', Fs = f :: Fs' ∧ ((∃ xs, J xs f ∧ xs = blks (p ++ ends p.length) ((p ++ ends p.length).length / 64) ∧ Fs' = []) ∨ (∃ pre, Jx pre f ∧ Fs' = []))) := by
  have g := good_sha_Blocks_1 w (Un [f0, bkF bx ty_sl_uint8 [.slice A p.length c]]) [bx]
  have hs0 : Sat (cx_sha_Blocks_1 w (Un [f0, bkF bx ty_sl_uint8 [.slice A p.length c]]) [bx]) (Va.of fun _ => bx) 1 [] (f0 :: R :: [bkF bx ty_sl_uint8 [.slice A p.length c], bsF A p]) w := by
    refine hm.sat rfl (fun f hf ho k hk => ?_) ⟨Nat.le_refl 1, fun i hi => by obtain rfl : i = 0 := Nat.lt_one_iff.1 hi; rfl⟩
    simp only [List.mem_cons, List.not_mem_nil, or_false] at hf
    rcases hf with rfl | rfl | rfl | rfl
    · exact ⟨_, by simp, hk⟩
    · rw [hRo] at ho; cases ho
    · exact ⟨_, by simp, hk⟩
    · cases ho
  have hs1 := hs0.toBk 2 rfl 0 Nat.zero_lt_one rfl
  have hf0 := hJo _ _ hJ0
  refine con_of_sx (cx := cx_sha_Blocks_1 w (Un [f0, bkF bx ty_sl_uint8 [.slice A p.length c]]) [bx]) g b_sha_Blocks_1 rfl rfl (β := Va.of fun _ => bx) [.c (.v (.func (.yield l) #[] #[])), .c (.p 0 0)] 1 [⟨0, ty_sl_uint8, [.v (.slice A p.length c)]⟩] [f0, R, bsF A p] rfl rfl hs1 ?_
  refine draw_rule g p_sha_Blocks_1_0 (by kernel_rfl) [⟨0, ty_sl_uint8, [.v (.slice A p.length c)]⟩] [f0, R, bsF A p] Sub.refl ?_
  refine ⟨((p.length : Nat) : Int), by rw [wrap_u64']; omega, ?_⟩
  refine call_con [] (fun β w' hs => clone_c w' A p c (hs.get 2 rfl) (by omega)) ?_
  rintro v Fs ⟨A1, c1, rfl, h1, h2, rfl⟩
  refine ⟨Sub.dropF 1 rfl, ?_⟩
  refine call_con [] (fun β w' hs => ends_c w' p.length (by omega)) ?_
  rintro v Fs ⟨A2, c2, rfl, h3, h4, rfl⟩
  refine ⟨Sub.dropF 2 rfl, ?_⟩
  obtain ⟨q, hq⟩ : ∃ q, p ++ ends p.length = q := ⟨_, rfl⟩
  have hql : q.length = p.length + (ends p.length).length := by rw [← hq, List.length_append]
  have hel : (ends p.length).length < 73 := by rw [Sha.ends_len]; unfold zeros; omega
  have hqm : q.length % 64 = 0 := by rw [← hq]; exact Sha.pad_mod p
  rw [hq]
  refine ⟨1, p.length, q.length, _, (ends p.length).map byte, q.map byte, rfl, fun β w hs => row_rd (hs.get 0 rfl), bytes_one _, hql.symm, by rw [← hq, List.map_append], by rw [maxLen_eq]; omega, by show q.length * 1 ≤ _; omega, ?_⟩
  intro A3 c3 h5 h6 _
  refine ⟨Sub.dropF 2 rfl, ?_⟩
  refine loop_rule (ι := Nat × Option Addr × Nat × Fact) 1 (fun i => [(0, .c (.v (.func (.yield l) #[] #[]))), (3, .c (.v (.slice i.2.1 (q.length - 64 * i.1) i.2.2.1)))]) (fun _ => [⟨0, ty_sl_uint8, [.v (.slice A p.length c)]⟩])
    (fun i => [browF ty_uint8 A3 q c3, i.2.2.2, R])
    (fun i => 64 * i.1 ≤ q.length ∧ q.length - 64 * i.1 ≤ i.2.2.1 ∧ i.2.2.1 ≤ maxLen ∧ J (blks q i.1) i.2.2.2 ∧ (∀ w, Bs w A3 q → Bs w i.2.1 (q.drop (64 * i.1))) ∧ (∀ ad, i.2.1 = some ad → ∃ ad3, A3 = some ad3 ∧ ad.block = ad3.block)) (fun i => q.length - 64 * i.1) (0, A3, c3, f0)
    ⟨Nat.zero_le _, h5, h6, hJ0, fun w h => h, fun ad h => ⟨ad, h, rfl⟩⟩ (Ent.mk' ⟨rfl, rfl, trivial⟩ rfl (fun β w' hs => hs.weaken (List.Sublist.refl _) (List.Sublist.cons _ (List.Sublist.cons_cons _ (List.Sublist.cons_cons _ (List.Sublist.cons_cons _ (List.nil_sublist _))))))) g ?_
  rintro ⟨i, B, cap, f⟩ ⟨hi, hcap, hcm, hJ, hB, hBD⟩
  simp only at hi hcap hcm hJ hB hBD
  have hfo := hJo _ _ hJ
  obtain ⟨m, hm⟩ : ∃ m, q.length - 64 * i = m := ⟨_, rfl⟩
  have hmc : m ≤ cap := by omega
  rw [hm]
  have hdl : (q.drop (64 * i)).length = m := by rw [List.length_drop]; omega
  refine BIf.dec (fun h0 => ?_) (fun h0 => ?_)
  · have hm64 : 64 ≤ m := by omega
    have hbl : (blk q i).length = 64 := by unfold blk; rw [List.length_take, hdl]; omega
    refine ⟨64, 64, 0, 64, 64, _, rfl, rfl, rfl, by show 64 ≤ cap; omega, by omega, by omega, rfl, rfl, rfl, ?_⟩
    have hcutD : ∀ k, (bsF (cutA B 64 0 1) (blk q i)).D k → (browF ty_uint8 A3 q c3).D k := by
      rintro k ⟨_, ad, had, rfl⟩
      simp only [cutA] at had
      rw [if_neg (by decide)] at had
      cases B with
      | none => cases had
      | some ad0 =>
        obtain rfl : ad0.add (0 * 1) = ad := by simpa using had
        obtain ⟨ad3, h7, h8⟩ := hBD ad0 rfl
        subst h7
        have : (ad0.add (0 * 1)).block = ad0.block := by unfold Addr.add; split <;> rfl
        show some ad3.block = some (ad0.add (0 * 1)).block
        rw [this, h8]
    refine yield_ro (x := blk q i) (X := bsF (cutA B 64 0 1) (blk q i)) hY 1 2 rfl hJ hfo rfl hRo (by decide) (fun β => ⟨hbl, _, rfl, rfl⟩) rfl (fun β w' hs => ⟨?_, fun k hk => hs.getLt 0 rfl k (hcutD k hk), fun k hk hk' => ?_⟩) ?_ ?_
    · have h7 := Bs.cut (hB w' (row_rd (hs.get 0 rfl))) (c := cap) (m := 64) (i := 0) (j := 64) (by omega) (.inr (Nat.le_refl _)) (by omega) (by omega) (by omega)
      have h8 : Rd 1 (cutA B 64 0 1) (blk q i).length ((blk q i).map byte) w' := by rw [hbl]; exact h7
      exact h8
    · exact hs.apart (i := 1) (j := 0) rfl rfl (by decide) (.inr rfl) k hk (hcutD k hk')
    · intro f2 hfo2 hJ2
      refine ⟨cap, m, 64, m - 64, cap - 64, _, rfl, rfl, rfl, Nat.le_refl _, hmc, hm64, rfl, rfl, rfl, ?_⟩
      refine ⟨(i + 1, cutA B cap 64 1, cap - 64, f2), ⟨by show 64 * (i + 1) ≤ _; omega, by show q.length - 64 * (i + 1) ≤ cap - 64; omega, by show cap - 64 ≤ _; omega, by show J (blks q (i + 1)) f2; rw [blks_succ]; exact hJ2, fun w' h => ?_, fun ad had => ?_⟩, by show q.length - 64 * (i + 1) < m; omega, Ent.mk' ⟨rfl, ?_, trivial⟩ rfl (fun β w' hs => ?_)⟩
      · have h7 := Bs.cutB (hB w' h) (c := cap) (i := 64) (j := m) (m := q.drop (64 * (i + 1))) (by omega) hm64 (by omega) (by
          rw [List.drop_drop, show 64 * i + 64 = 64 * (i + 1) by omega, List.take_of_length_le]
          rw [List.length_drop]; omega)
        exact h7
      · have had' : cutA B cap 64 1 = some ad := had
        unfold cutA at had'
        split at had'
        · exact hBD ad had'
        · cases B with
          | none => cases had'
          | some ad0 =>
            obtain rfl : ad0.add (64 * 1) = ad := by simpa using had'
            obtain ⟨ad3, h7, h8⟩ := hBD ad0 rfl
            refine ⟨ad3, h7, ?_⟩
            rw [← h8]
            unfold Addr.add; split <;> rfl
      · show _ = some (SV.c (.v (.slice _ (q.length - 64 * (i + 1)) _)))
        rw [show q.length - 64 * (i + 1) = m - 64 by omega]
        rfl
      · exact (hs.keepB (List.Sublist.refl _)).perm [1, 0, 2]
    · intro f2 hfo2 hJ2 β w' hs
      exact hs.fin [0] ⟨f2, [], rfl, .inr ⟨_, hJ2, rfl⟩⟩ rfl rfl rfl ⟨hfo2, trivial⟩
  · have hi2 : i = q.length / 64 := by omega
    intro β w' hs
    exact hs.fin [1] ⟨f, [], rfl, .inl ⟨_, hJ, by rw [hi2], rfl⟩⟩ rfl rfl rfl ⟨hfo, trivial⟩
end Go.Proofs.YthkjfepbmnabkaaGreatDoor.Sx

/- The sum of a text. -/
namespace Go.Proofs.YthkjfepbmnabkaaGreatDoor.Sx
open Go Sha
attribute [local irreducible] Calls

theorem rd_sub_row {e size k n c : Nat} {A : Option Addr} {xs ys : List Value} : ∀ g, (rdF size A k xs).D g → (rowF e size (.slice A n c) n ys).D g := by
  rintro g ⟨_, ad, rfl, rfl⟩
  rfl
/-- The last one is only read. -/
theorem Mem.lastRd {w : World} {f R X : Fact} {e c : Nat} {A : Option Addr} {l : List UInt8} (h : Mem w [f, R, X, browF e A l c]) : Mem w [f, R, X, bsF A l] := by
  have hp : Bs w A l := row_rd (h.fact (browF e A l c) (by simp))
  refine ⟨fun g hg => ?_, fun g hg k hk => ?_, ?_⟩
  · simp only [List.mem_cons, List.not_mem_nil, or_false] at hg
    rcases hg with rfl | rfl | rfl | rfl
    · exact h.fact _ (by simp)
    · exact h.fact _ (by simp)
    · exact h.fact _ (by simp)
    · exact hp
  · simp only [List.mem_cons, List.not_mem_nil, or_false] at hg
    rcases hg with rfl | rfl | rfl | rfl
    · exact h.flt g (by simp) k hk
    · exact h.flt g (by simp) k hk
    · exact h.flt g (by simp) k hk
    · exact h.flt (browF e A l c) (by simp) k (rd_sub_row k hk)
  · obtain ⟨h1, h2⟩ := List.pairwise_cons.1 h.sepf
    obtain ⟨h3, h4⟩ := List.pairwise_cons.1 h2
    obtain ⟨h5, _⟩ := List.pairwise_cons.1 h4
    refine List.pairwise_cons.2 ⟨fun g hg ho => ?_, List.pairwise_cons.2 ⟨fun g hg ho => ?_, List.pairwise_cons.2 ⟨fun g hg ho => ?_, List.pairwise_singleton _ _⟩⟩⟩
    · simp only [List.mem_cons, List.not_mem_nil, or_false] at hg
      rcases hg with rfl | rfl | rfl
      · exact h1 _ (by simp) ho
      · exact h1 _ (by simp) ho
      · exact fun k hk q => h1 (browF e A l c) (by simp) (.inr rfl) k hk (rd_sub_row k q)
    · simp only [List.mem_cons, List.not_mem_nil, or_false] at hg
      rcases hg with rfl | rfl
      · exact h3 _ (by simp) ho
      · exact fun k hk q => h3 (browF e A l c) (by simp) (.inr rfl) k hk (rd_sub_row k q)
    · obtain rfl := List.mem_singleton.1 hg
      exact fun k hk q => h5 (browF e A l c) (by simp) (.inr rfl) k hk (rd_sub_row k q)
theorem Blocks_c (w : World) (A : Option Addr) (n c : Nat) : Con Tryz.prog n_sha_Blocks #[.slice A n c] w [] (fun v Fs => ∃ bx, v = .func (.func n_sha_Blocks_1) #[] #[.pointer (some ⟨bx, 0, none⟩)] ∧ Fs = [bkF bx ty_sl_uint8 [.slice A n c]]) := by
  refine con_of_sx (cx := cx_sha_Blocks w (Un [])) (good_sha_Blocks w (Un [])) b_sha_Blocks rfl rfl (β := Va.z) [.c (.v (.slice A n c))] 0 [] [] rfl rfl (Sat.start rfl) ?_
  intro β w' hs
  exact hs.ofBk.fin [0] ⟨β 0, rfl, rfl⟩
/-- One part. -/
theorem join1_c (w : World) (P A : Option Addr) (cP c : Nat) (l : List UInt8) (hP : Rd 1 P 1 [.slice A l.length c] w) (hr : Bs w A l) (hn : l.length ≤ 140737488355328) :
    Con Tryz.prog n_bytes_Join #[.slice P 1 cP, .slice none 0 0] w [] fun v Fs => ∃ A' c', v = .slice A' l.length c' ∧ l.length ≤ c' ∧ c' ≤ maxLen ∧ Fs = [browF ty_uint8 A' l c'] := by
  have hs0 : Sat (cx_bytes_Join w (Un [])) Va.z 0 [] [oldF w] w := old_sat rfl
  refine con_of_sx (cx := cx_bytes_Join w (Un [])) (good_bytes_Join w (Un [])) b_bytes_Join rfl rfl (β := Va.z) [.c (.v (.slice P 1 cP)), .c (.v (.slice none 0 0))] 0 [] [browF ty_uint8 none [] 0, oldF w] rfl rfl (hs0.nilRow _ _) ?_
  obtain ⟨ad, rfl, hc⟩ := hP.2 (by decide)
  refine ⟨ad, 0, rfl, rfl, by decide, .slice A l.length c, fun β w' hs => ?_, ?_⟩
  · have h1 : Rd 1 (some ad) 1 [.slice A l.length c] w' := hP.old (hs.get 1 rfl)
    obtain ⟨ad', h2, h3⟩ := h1.2 (by decide)
    obtain rfl := Option.some.inj h2
    exact h3 0 _ rfl
  refine ⟨0, 0, l.length, [], l.map byte, _, rfl, fun β w' hs => hr.old (hs.get 1 rfl), bytes_one l, Nat.zero_add _, rfl, by rw [maxLen_eq]; omega, by show l.length * 1 ≤ _; omega, ?_⟩
  intro A' c' h1 h2 h3 β w' hs
  exact hs.fin [0] ⟨A', c', rfl, h1, h2, rfl⟩

theorem step64_c (w : World) (b ty : Nat) (s : S8) (A : Option Addr) (x : List UInt8) (hx : x.length = 64) (hm : Mem w [stF b ty s, bsF A x, oddF 2]) :
    Con Tryz.prog n_sha_state_step #[.pointer (some ⟨b, 0, none⟩), .slice A 64 64] w [stF b ty s] fun v Fs => v = .tuple #[] ∧ Fs = [stF b ty (Sha.step s x)] := by
  have := step_c w b ty s A x 64 hm (by omega) (by omega) (by decide)
  rw [hx] at this
  exact this

/-- The tables that are read. -/
def firstF (g : Nat) : Fact := rdF 1 (some ⟨g, 0, none⟩) 8 (Sha.first.l.map u32)
theorem sum1_c (w : World) (P A : Option Addr) (cP c : Nat) (l : List UInt8) (hP : Rd 1 P 1 [.slice A l.length c] w) (hr : Bs w A l) (hn : l.length ≤ 70368744177664) (h1 : (oddF 2).p w) (h0 : (firstF 0).p w) :
    Con Tryz.prog n_sha_Sum #[.slice P 1 cP] w [] fun v Fs => ∃ A' c', v = .slice A' 32 c' ∧ 32 ≤ c' ∧ c' ≤ maxLen ∧ Fs = [browF ty_uint8 A' (Sha.sum l) c'] := by
  have g := good_sha_Sum w (Un [])
  have hs0 : Sat (cx_sha_Sum w (Un [])) Va.z 0 [] [oldF w] w := old_sat rfl
  have hs1 : Sat (cx_sha_Sum w (Un [])) Va.z 0 [] [oddF 2, oldF w] w := hs0.sub 0 rfl rfl _ rfl h1 (rd_lt h1)
  refine con_of_sx (cx := cx_sha_Sum w (Un [])) g b_sha_Sum rfl rfl (β := Va.z) [.c (.v (.slice P 1 cP))] 0 [] [oddF 2, oldF w] rfl rfl hs1 ?_
  refine ⟨Sha.first.l.map u32, rfl, fun β w' hs j u hu => ?_, ?_⟩
  · have h2 : Rd 1 (some ⟨0, 0, none⟩) 8 (Sha.first.l.map u32) w' := Rd.old h0 (hs.get 1 rfl)
    obtain ⟨ad, h3, h4⟩ := h2.2 (by decide)
    obtain rfl := Option.some.inj h3
    exact h4 j u hu
  refine call_con [] (fun β w' hs => join1_c w' P A cP c l (hP.old (hs.get 1 rfl)) (hr.old (hs.get 1 rfl)) (by omega)) ?_
  rintro v Fs ⟨A1, c1, rfl, h2, h3, rfl⟩
  refine call_con [] (fun β w' hs => Blocks_c w' A1 l.length c1) ?_
  rintro v Fs ⟨bx, rfl, rfl⟩
  refine reify_rule g 0 (fun _ => Sha.first.l.map u32) rfl rfl (fun _ => rfl) (fun sb => ?_)
  obtain ⟨q, hq⟩ : ∃ q, l ++ ends l.length = q := ⟨_, rfl⟩
  have hsum : Sha.sum l = out ((blks q (q.length / 64)).foldl Sha.step Sha.first) := by rw [← go_eq, ← hq]; rfl
  rw [hsum]
  refine range_rule (α := List UInt8) (ι := S8) (κ := S8) g rfl (cv := [.pointer (some ⟨bx, 0, none⟩)]) rfl (by kernel_rfl) 1 (Nat.le_refl 1)
    (fun pre s => s = pre.foldl Sha.step Sha.first) (fun _ => []) (fun s => [stF sb 212 s]) (fun _ => ⟨rfl, trivial⟩)
    (fun _ _ _ => False) (fun _ => []) (fun _ => []) (fun _ => trivial)
    [bkF bx ty_sl_uint8 [.slice A1 l.length c1]] [browF ty_uint8 A1 l c1] [oddF 2] ⟨rfl, trivial⟩ (fun g hg => by obtain rfl := List.mem_singleton.1 hg; rfl)
    Sha.first rfl (fun β w' hs => ⟨β, Agr.refl _ _, hs.perm [1, 2, 0, 3]⟩) (fun _ => insB)
    (fun xs Fs' => xs = blks q (q.length / 64) ∧ Fs' = []) (fun _ Fs' => Fs' = [])
    (fun l' w' f0 R J Jx hJ0 hJo hRo hY hm => (blocks_it l' w' bx A1 l c1 f0 R J Jx hJ0 hJo hRo hY hn hm.lastRd).mono fun _ Fs h => by rw [hq] at h; exact h) ?_ ?_ ?_
  · rintro s pre x args X W S l' bs pn pn' hbs hpre ⟨hx, B, rfl, rfl⟩
    refine ⟨_, rfl, ?_⟩
    refine call_con [1] (fun β w' hs => step64_c w' sb 212 s B x hx (hs.mem.take (js := [1, 0, 2]) rfl)) ?_
    rintro v Fs ⟨rfl, rfl⟩
    refine ⟨Sha.step s x, by show Sha.step s x = (pre ++ [x]).foldl Sha.step Sha.first; rw [List.foldl_append, hpre]; rfl, Ent.mk' trivial rfl (fun β w' hs => ?_)⟩
    exact hs.weaken (List.Sublist.refl _) (List.Sublist.cons_cons _ (List.nil_sublist _))
  · rintro xs s Fs hpre ⟨rfl, rfl⟩
    refine call_con [0] (fun β w' hs => stbytes_c w' sb 212 s (hs.mem.take (js := [0]) rfl)) ?_
    rintro v Fs ⟨A3, c3, rfl, h5, h6, rfl⟩
    intro β w' hs
    refine hs.fin [1] ⟨A3, c3, rfl, h5, h6, ?_⟩
    rw [← hpre]
    rfl
  · rintro e pre s Fs h _
    exact h.elim
end Go.Proofs.YthkjfepbmnabkaaGreatDoor.Sx

/- The document's words for sums. -/
namespace Go.Proofs.YthkjfepbmnabkaaGreatDoor.Sx
open Go Sha
attribute [local irreducible] Calls

def stV (s : S8) : Value := .agg (s.l.map u32).toArray
theorem be4 (x : UInt32) : be 4 x.toNat = b4 x := by
  have hx := x.toNat_lt
  simp only [be, b4, List.nil_append, List.cons_append]
  have e : ∀ n, n < 256 → ∀ y : UInt8, y.toNat = n → UInt8.ofNat n = y := fun n _ y h => by rw [← h, UInt8.ofNat_toNat]
  have h1 : ∀ k : Nat, k < 32 → (x >>> UInt32.ofNat k).toNat = x.toNat / 2 ^ k := fun k hk => by
    rw [UInt32.toNat_shiftRight, UInt32.toNat_ofNat', Nat.mod_eq_of_lt (show k < 2 ^ 32 by omega), Nat.mod_eq_of_lt hk, Nat.shiftRight_eq_div_pow]
  congr 1
  · exact e _ (by omega) _ (by rw [UInt32.toNat_toUInt8, show (24 : UInt32) = UInt32.ofNat 24 from rfl, h1 24 (by omega)] <;> omega)
  congr 1
  · exact e _ (by omega) _ (by rw [UInt32.toNat_toUInt8, show (16 : UInt32) = UInt32.ofNat 16 from rfl, h1 16 (by omega)] <;> omega)
  congr 1
  · exact e _ (by omega) _ (by rw [UInt32.toNat_toUInt8, show (8 : UInt32) = UInt32.ofNat 8 from rfl, h1 8 (by omega)] <;> omega)
  congr 1
  exact e _ (by omega) _ (by rw [UInt32.toNat_toUInt8])
theorem ofNat_mod (n : Nat) : UInt8.ofNat (n % 256) = UInt8.ofNat n := by
  apply UInt8.toNat_inj.1
  rw [UInt8.toNat_ofNat', UInt8.toNat_ofNat']
  omega
theorem be8 (n : Nat) : be 8 n = Sha.long n := by
  simp only [be, Sha.long, List.nil_append, List.cons_append, ofNat_mod, List.map_cons, List.map_nil, Nat.div_div_eq_div_mul]
  simp

theorem first_c (w : World) : Pu Tryz.prog n_ostiaryref01_First #[] w (stV Sha.first) := by
  refine pu_of (calls_of_sx (cx := cx_ostiaryref01_First w None_) (good_ostiaryref01_First w None_) b_ostiaryref01_First rfl rfl (β := Va.z) [] 0 [] [] rfl rfl (Sat.start rfl) ?_)
  intro β w' hs
  exact ⟨rfl, hs.chg⟩

theorem be_con (w : World) (n k : Nat) (hn : n < 18446744073709551616) (hk : k ≤ 4096) :
    Con Tryz.prog n_ostiaryref01_Bytes #[.int .u64 n, .int .i64 k] w [] fun v Fs => ∃ A c, v = .slice A (be k n).length c ∧ (be k n).length ≤ c ∧ c ≤ maxLen ∧ Fs = [browF ty_uint8 A (be k n) c] := con_row (bytes_c w n k hn hk)
theorem tail_c (w : World) (n : Nat) (hn : n ≤ 140737488355328) :
    Con Tryz.prog n_ostiaryref01_Tail #[.int .u64 n] w [] fun v Fs => ∃ A c, v = .slice A (Sha.ends n).length c ∧ (Sha.ends n).length ≤ c ∧ c ≤ maxLen ∧ Fs = [browF ty_uint8 A (Sha.ends n) c] := by
  have g := good_ostiaryref01_Tail w (Un [])
  have hz : zeros n < 64 := by unfold zeros; omega
  refine con_of_sx (cx := cx_ostiaryref01_Tail w (Un [])) g b_ostiaryref01_Tail rfl rfl (β := Va.z) [.c (.v (.int .u64 n))] 0 [] [] rfl rfl (Sat.start rfl) ?_
  intro b0
  refine ⟨by decide, ((n % 64 : Nat) : Int), by rw [Int.tmod_eq_emod_of_nonneg (by omega)]; omega, ((n % 64 + 1 : Nat) : Int), by rw [wrap_u64']; omega, ?_⟩
  refine loop_rule (ι := Nat × Option Addr × Nat) 0 (fun i => [(0, .c (.v (.int .u64 n))), (4, .c (.v (.int .u64 ((n % 64 + 1 + i.1 : Nat) : Int)))), (3, .c (.v (.slice i.2.1 (i.1 + 1) i.2.2)))]) (fun _ => [])
    (fun i => [rowF ty_uint8 1 (.slice i.2.1 (i.1 + 1) i.2.2) (i.1 + 1) (((0x80 : UInt8) :: List.replicate i.1 0).map byte)])
    (fun i => i.1 ≤ zeros n ∧ i.1 + 1 ≤ i.2.2 ∧ i.2.2 ≤ maxLen) (fun i => zeros n - i.1) (0, some ⟨b0, 0, none⟩, 1) ⟨Nat.zero_le _, Nat.le_refl _, by show 1 ≤ maxLen; decide⟩ (Ent.same ⟨rfl, rfl, rfl, trivial⟩ rfl) g ?_
  rintro ⟨i, A, c⟩ ⟨hi, hc, hcm⟩
  simp only at hi hc hcm
  obtain ⟨r, hr⟩ : ∃ r : Nat, (n % 64 + 1 + i) % 64 = r := ⟨_, rfl⟩
  refine ⟨by decide, (r : Int), by dsimp only; rw [Int.tmod_eq_emod_of_nonneg (by omega)]; omega, ?_⟩
  refine BIf.not (BIf.dec (fun h0 => ?_) (fun h0 => ?_))
  · have hiz : i = zeros n := by unfold zeros at *; omega
    refine ⟨((8 * n : Nat) : Int), by rw [wrap_u64']; omega, ?_⟩
    refine call_con [] (fun β w' hs => be_con w' (8 * n) 8 (by omega) (by omega)) ?_
    rintro v Fs ⟨A2, c2, rfl, h1, h2, rfl⟩
    have hl : (Sha.ends n).length = i + 1 + 8 := by rw [Sha.ends_len, hiz]; omega
    refine ⟨1, i + 1, (Sha.ends n).length, _, (be 8 (8 * n)).map byte, (Sha.ends n).map byte, rfl, fun β w hs => row_rd (hs.get 0 rfl), bytes_one _, by rw [be_length]; exact hl.symm, by rw [← List.map_append, be8, hiz]; rfl, by rw [maxLen_eq, hl]; omega, by show (Sha.ends n).length * 1 ≤ _; omega, ?_⟩
    intro A' c' h3 h4 _
    intro β w' hs
    exact hs.fin [1] ⟨A', c', rfl, h3, h4, rfl⟩
  · have hiz : i < zeros n := by
      rcases Nat.lt_or_ge i (zeros n) with h | h
      · exact h
      · exfalso
        apply h0
        have : i = zeros n := by omega
        subst this
        unfold zeros at hr
        omega
    intro b2
    refine ⟨1, i + 1, i + 1 + 1, ((0x80 : UInt8) :: List.replicate i 0).map byte, [(0 : UInt8)].map byte, _, rfl, fun β w hs => row_rd (hs.get 0 rfl), bytes_one _, rfl, rfl, by rw [maxLen_eq]; omega, by show (i + 1 + 1) * 1 ≤ _; omega, ?_⟩
    intro A' c' h1 h2 _
    refine ⟨((n % 64 + 1 + (i + 1) : Nat) : Int), by dsimp only; rw [wrap_u64']; omega, ?_⟩
    refine ⟨(i + 1, A', c'), ⟨hiz, h1, h2⟩, by show zeros n - (i + 1) < zeros n - i; omega, Ent.mk' ⟨rfl, rfl, rfl, trivial⟩ rfl (fun β w' hs => ?_)⟩
    have h3 := hs.weaken (List.Sublist.refl _) (List.sublist_cons_self _ _)
    show Sat _ _ _ _ [rowF ty_uint8 1 (.slice A' (i + 1 + 1) c') (i + 1 + 1) (((0x80 : UInt8) :: List.replicate (i + 1) 0).map byte)] _
    rw [List.replicate_succ', ← List.cons_append, List.map_append]
    exact h3

theorem out_c (w : World) (s : S8) :
    Con Tryz.prog n_ostiaryref01_Out #[stV s] w [] fun v Fs => ∃ A c, v = .slice A 32 c ∧ 32 ≤ c ∧ c ≤ maxLen ∧ Fs = [browF ty_uint8 A (out s) c] := by
  have g := good_ostiaryref01_Out w (Un [])
  refine con_of_sx (cx := cx_ostiaryref01_Out w (Un [])) g b_ostiaryref01_Out rfl rfl (β := Va.z) [.agg (s.l.map sl32)] 0 [] [browF ty_uint8 none [] 0] rfl rfl ((Sat.start rfl).nilRow _ _) ?_
  refine loop_rule (ι := Nat × Option Addr × Nat) 1 (fun i => [(6, .agg (s.l.map sl32)), (7, .c (.v (.int .i64 i.1))), (3, .c (.v (.slice i.2.1 (4 * i.1) i.2.2)))]) (fun _ => [⟨0, 184, s.l.map sl32⟩])
    (fun i => [rowF ty_uint8 1 (.slice i.2.1 (4 * i.1) i.2.2) (4 * i.1) ((outN s i.1).map byte)])
    (fun i => i.1 ≤ 8 ∧ 4 * i.1 ≤ i.2.2 ∧ i.2.2 ≤ maxLen) (fun i => 8 - i.1) (0, none, 0) ⟨Nat.zero_le _, Nat.zero_le _, Nat.zero_le _⟩ (Ent.same ⟨rfl, rfl, rfl, trivial⟩ rfl) g ?_
  rintro ⟨i, A, c⟩ ⟨hi, hc, hcm⟩
  simp only at hi hc hcm
  refine BIf.dec (fun hlt => ?_) (fun hge => ?_)
  · have hlt : i < 8 := by omega
    obtain ⟨x, hx⟩ : ∃ x, s.l.getD i 0 = x := ⟨_, rfl⟩
    have hxl := x.toNat_lt
    refine ⟨i, sl32 x, rfl, hlt, by show (s.l.map sl32)[i * 1]? = _; rw [Nat.mul_one, ← hx]; exact l_get s i hlt, ?_⟩
    refine ⟨(x.toNat : Int), by rw [wrap_u64']; omega, ?_⟩
    refine call_con [] (fun β w' hs => be_con w' x.toNat 4 (by omega) (by omega)) ?_
    rintro v Fs ⟨A2, c2, rfl, h1, h2, rfl⟩
    refine ⟨1, 4 * i, 4 * (i + 1), (outN s i).map byte, (b4 x).map byte, _, rfl, fun β w hs => by rw [← be4]; exact row_rd (hs.get 0 rfl), bytes_one _, by rw [be_length]; omega, rfl, by rw [maxLen_eq]; omega, by show 4 * (i + 1) * 1 ≤ _; omega, ?_⟩
    intro A' c' h3 h4 _
    refine ⟨((i + 1 : Nat) : Int), by rw [wrap_i64 (by omega) (by omega)]; rfl, ?_⟩
    refine ⟨(i + 1, A', c'), ⟨by show i + 1 ≤ 8; omega, h3, h4⟩, by show 8 - (i + 1) < 8 - i; omega, Ent.mk' ⟨rfl, rfl, rfl, trivial⟩ rfl (fun β w' hs => ?_)⟩
    have e1 := outN_succ s i hlt
    rw [hx] at e1
    have h5 := hs.weaken (List.Sublist.refl _) (List.sublist_cons_self _ _)
    show Sat _ _ _ _ [rowF ty_uint8 1 (.slice A' (4 * (i + 1)) c') (4 * (i + 1)) ((outN s (i + 1)).map byte)] _
    rw [← e1, List.map_append]
    exact h5
  · obtain rfl : i = 8 := by omega
    intro β w' hs
    exact (hs.keepB (List.nil_sublist _)).fin [0] ⟨A, c, rfl, hc, hcm, rfl⟩
end Go.Proofs.YthkjfepbmnabkaaGreatDoor.Sx

/- The document's step. -/
namespace Go.Proofs.YthkjfepbmnabkaaGreatDoor.Sx
open Go Sha
attribute [local irreducible] Calls

theorem take4 (l : List UInt8) (k : Nat) (h : k + 4 ≤ l.length) : (l.drop k).take 4 = [l.getD k 0, l.getD (k + 1) 0, l.getD (k + 2) 0, l.getD (k + 3) 0] := by
  refine List.ext_getElem? fun j => ?_
  rw [List.getElem?_take]
  have g : ∀ j, j < 4 → (l.drop k)[j]? = some (l.getD (k + j) 0) := fun j hj => getD_drop l k j (by omega)
  match j with
  | 0 => simpa using g 0 (by omega)
  | 1 => simpa using g 1 (by omega)
  | 2 => simpa using g 2 (by omega)
  | 3 => simpa using g 3 (by omega)
  | n + 4 => simp; omega
theorem numB4 (a b c d : UInt8) : IntKind.u32.wrap (numB [a, b, c, d] : Int) = ((word a b c d).toNat : Int) := by
  have h1 := a.toNat_lt
  have h2 := b.toNat_lt
  have h3 := c.toNat_lt
  have h4 := d.toNat_lt
  have : numB [a, b, c, d] = a.toNat * 16777216 + b.toNat * 65536 + c.toNat * 256 + d.toNat := by
    simp only [numB, List.foldl_cons, List.foldl_nil]
    omega
  rw [this, wrap32_nat]
  rfl
theorem nxt_ac (a b c d : UInt32) : ((d + c) + b) + a = a + b + c + d := by ac_rfl

theorem odd_cell3 {g : Nat} {w : World} (h : (oddF g).p w) {i : Nat} (hi : i < 64) : w.cell? ((⟨g, 0, none⟩ : Addr).add (i * 1)) = some (u32 (K.getD i 0)) := odd_cell h hi
theorem rstep_c (w : World) (s : S8) (A : Option Addr) (l : List UInt8) (c : Nat) (hr : Bs w A l) (hk : (oddF 3).p w) (hc : l.length ≤ c) (hl : 64 ≤ l.length) (hm : c ≤ maxLen) :
    Pu Tryz.prog n_ostiaryref01_Step #[stV s, .slice A l.length c] w (stV (Sha.step s l)) := by
  have g := good_ostiaryref01_Step w (Un [])
  obtain ⟨ws, hws⟩ : ∃ ws, W l = ws := ⟨_, rfl⟩
  have hwl : ws.length = 64 := by rw [← hws]; exact W_len l
  have hst0 : Sha.step s l = s.add (rounds s ws 64) := by rw [Sha.step, hws]
  rw [hst0]
  have hs0 : Sat (cx_ostiaryref01_Step w (Un [])) Va.z 0 [] [oldF w] w := old_sat rfl
  have hs1 : Sat (cx_ostiaryref01_Step w (Un [])) Va.z 0 [] [bsF A l, oddF 3, oldF w] w := (hs0.sub 0 rfl rfl (oddF 3) rfl hk (rd_lt hk)).sub 1 rfl rfl (bsF A l) rfl hr (rd_lt hr)
  rw [maxLen_eq] at hm
  refine con_of_sx (cx := cx_ostiaryref01_Step w (Un [])) g b_ostiaryref01_Step rfl rfl (β := Va.z) [.agg (s.l.map sl32), .c (.v (.slice A l.length c))] 0 [] [bsF A l, oddF 3, oldF w] rfl rfl hs1 ?_
  have e0 : arr 64 [] = ti251.zero.map SL.v := by simp only [arr, List.nil_append, List.length_nil, List.map_replicate]; rfl
  refine loop_rule (ι := Nat) 3 (fun i => [(1, .c (.v (.slice A l.length c))), (2, .c (.p 0 0)), (4, .c (.p 1 0)), (5, .c (.p 2 0)), (6, .c (.v (.int .i64 i)))]) (fun i => [⟨2, 251, arr 64 (sched l i)⟩, ⟨1, 184, ti184.zero.map SL.v⟩, ⟨0, 184, s.l.map sl32⟩]) (fun _ => [bsF A l, oddF 3, oldF w])
    (fun i => i ≤ 64) (fun i => 64 - i) 0 (Nat.zero_le _) (Ent.mk' ⟨rfl, rfl, rfl, rfl, rfl, trivial⟩ rfl (fun β w' hs => by rw [show sched l 0 = [] from rfl, e0]; exact hs)) g ?_
  intro i hi
  refine BIf.dec (fun hlt => ?_) (fun hge => ?_)
  · have hlt : i < 64 := by omega
    have hsl : (sched l i).length = i := sched_len l i
    have ld : ∀ {k : Nat}, k < i → nth (arr 64 (sched l i)) (0 + k * 1) = some (sl32 ((sched l i).getD k 0)) := fun {k} hk => by
      rw [nth_eq, Nat.zero_add, Nat.mul_one]; exact arr_get (by omega)
    have fin : ∀ (x : UInt32), (if i < 16 then wordAt l i else nxt (sched l i) i) = x → putAll (arr 64 (sched l i)) (0 + i * 1) [sl32 x] = arr 64 (sched l (i + 1)) := fun x hx => by
      rw [putAll, putAll, putAt_eq, Nat.zero_add, Nat.mul_one]
      have := arr_set (n := 64) (ws := sched l i) (by omega) x
      rw [hsl] at this
      rw [this, sched, hx]
    have ble : Nat.ble (0 + i * 1 + 1) (arr 64 (sched l i)).length = true := by rw [arr_len (by omega), Nat.ble_eq]; omega
    refine BIf.dec (fun h16 => ?_) (fun h16 => ?_)
    · have h16 : i < 16 := by omega
      refine ⟨((4 * i : Nat) : Int), by rw [wrap_i64 (by omega) (by omega)]; omega, ((4 * i : Nat) : Int), by rw [wrap_i64 (by omega) (by omega)]; omega, ((4 * i + 4 : Nat) : Int), by rw [wrap_i64 (by omega) (by omega)]; omega, ?_⟩
      refine ⟨c, 4 * i + 4, 4 * i, 4, c - 4 * i, _, rfl, rfl, rfl, Nat.le_refl _, by omega, by omega, by omega, rfl, rfl, ?_⟩
      refine call_pu (fun β w' hs => pu_of (num_c w' (cutA A c (4 * i) 1) [l.getD (4 * i) 0, l.getD (4 * i + 1) 0, l.getD (4 * i + 2) 0, l.getD (4 * i + 3) 0] (c - 4 * i) ?_ (by show 4 ≤ lim; decide))) ?_
      · have h7 := Bs.cut (hs.get 0 rfl : Bs w' A l) (c := c) (m := c) (i := 4 * i) (j := 4 * i + 4) hc (.inl rfl) (by omega) (by omega) (Nat.le_refl _)
        rw [show 4 * i + 4 - 4 * i = 4 by omega, take4 l (4 * i) (by omega)] at h7
        exact h7
      refine ⟨_, numB4 _ _ _ _, i, rfl, by omega, ?_⟩
      conv => whnf
      generalize h1 : Nat.ble _ _ = b1
      obtain rfl : b1 = true := h1.symm.trans ble
      clear h1
      refine ⟨((i + 1 : Nat) : Int), by rw [wrap_i64 (by omega) (by omega)]; rfl, ?_⟩
      refine ⟨i + 1, by omega, by omega, Ent.mk' ⟨rfl, rfl, rfl, rfl, rfl, trivial⟩ rfl (fun β w' hs => ?_)⟩
      rw [← fin _ (if_pos h16)]
      exact hs
    · have h16 : ¬ i < 16 := by omega
      obtain ⟨xa, hxa⟩ : ∃ xa, (sched l i).getD (i - 15) 0 = xa := ⟨_, rfl⟩
      obtain ⟨xb, hxb⟩ : ∃ xb, (sched l i).getD (i - 2) 0 = xb := ⟨_, rfl⟩
      refine draw_rule g p_ostiaryref01_Step_7 (by kernel_rfl) _ _ Sub.refl ?_
      refine ⟨((i - 15 : Nat) : Int), by rw [wrap_i64 (by omega) (by omega)]; omega, i - 15, rfl, by omega, ?_⟩
      conv => whnf
      generalize hn : nth _ _ = o
      obtain rfl : o = some (sl32 xa) := hn.symm.trans (by rw [← hxa]; exact ld (by omega))
      clear hn
      refine ⟨((i - 15 : Nat) : Int), by rw [wrap_i64 (by omega) (by omega)]; omega, i - 15, rfl, by omega, ?_⟩
      conv => whnf
      generalize hn : nth _ _ = o
      obtain rfl : o = some (sl32 xa) := hn.symm.trans (by rw [← hxa]; exact ld (by omega))
      clear hn
      refine ⟨((i - 15 : Nat) : Int), by rw [wrap_i64 (by omega) (by omega)]; omega, i - 15, rfl, by omega, ?_⟩
      conv => whnf
      generalize hn : nth _ _ = o
      obtain rfl : o = some (sl32 xa) := hn.symm.trans (by rw [← hxa]; exact ld (by omega))
      clear hn
      refine ⟨by omega, _, shr32 xa 3 (by omega), ?_⟩
      refine call_pu (fun β w' hs => turn_c w' xa 7 (by omega) (by omega)) ?_
      refine ⟨Sub.refl, ?_⟩
      refine call_pu (fun β w' hs => turn_c w' xa 18 (by omega) (by omega)) ?_
      refine ⟨Sub.refl, _, xor32 _ _, _, xor32 _ _, ?_⟩
      refine draw_rule g p_ostiaryref01_Step_8 (by kernel_rfl) _ _ Sub.refl ?_
      refine ⟨((i - 2 : Nat) : Int), by rw [wrap_i64 (by omega) (by omega)]; omega, i - 2, rfl, by omega, ?_⟩
      conv => whnf
      generalize hn : nth _ _ = o
      obtain rfl : o = some (sl32 xb) := hn.symm.trans (by rw [← hxb]; exact ld (by omega))
      clear hn
      refine ⟨((i - 2 : Nat) : Int), by rw [wrap_i64 (by omega) (by omega)]; omega, i - 2, rfl, by omega, ?_⟩
      conv => whnf
      generalize hn : nth _ _ = o
      obtain rfl : o = some (sl32 xb) := hn.symm.trans (by rw [← hxb]; exact ld (by omega))
      clear hn
      refine ⟨((i - 2 : Nat) : Int), by rw [wrap_i64 (by omega) (by omega)]; omega, i - 2, rfl, by omega, ?_⟩
      conv => whnf
      generalize hn : nth _ _ = o
      obtain rfl : o = some (sl32 xb) := hn.symm.trans (by rw [← hxb]; exact ld (by omega))
      clear hn
      refine ⟨by omega, _, shr32 xb 10 (by omega), ?_⟩
      refine call_pu (fun β w' hs => turn_c w' xb 17 (by omega) (by omega)) ?_
      refine ⟨Sub.refl, ?_⟩
      refine call_pu (fun β w' hs => turn_c w' xb 19 (by omega) (by omega)) ?_
      refine ⟨Sub.refl, _, xor32 _ _, _, xor32 _ _, ?_⟩
      refine draw_rule g p_ostiaryref01_Step_9 (by kernel_rfl) _ _ Sub.refl ?_
      refine ⟨((i - 7 : Nat) : Int), by rw [wrap_i64 (by omega) (by omega)]; omega, i - 7, rfl, by omega, ?_⟩
      conv => whnf
      generalize hn : nth _ _ = o
      obtain rfl : o = some (sl32 ((sched l i).getD (i - 7) 0)) := hn.symm.trans (ld (by omega))
      clear hn
      refine ⟨_, add32 _ _, _, add32 _ _, ?_⟩
      refine ⟨((i - 16 : Nat) : Int), by rw [wrap_i64 (by omega) (by omega)]; omega, i - 16, rfl, by omega, ?_⟩
      conv => whnf
      generalize hn : nth _ _ = o
      obtain rfl : o = some (sl32 ((sched l i).getD (i - 16) 0)) := hn.symm.trans (ld (by omega))
      clear hn
      refine ⟨_, add32 _ _, i, rfl, by omega, ?_⟩
      conv => whnf
      generalize h1 : Nat.ble _ _ = b1
      obtain rfl : b1 = true := h1.symm.trans ble
      clear h1
      refine ⟨((i + 1 : Nat) : Int), by rw [wrap_i64 (by omega) (by omega)]; rfl, ?_⟩
      refine ⟨i + 1, by omega, by omega, Ent.mk' ⟨rfl, rfl, rfl, rfl, rfl, trivial⟩ rfl (fun β w' hs => ?_)⟩
      rw [← fin (((s1 xb + (sched l i).getD (i - 7) 0) + s0 xa) + (sched l i).getD (i - 16) 0) (by rw [if_neg h16, nxt, hxa, hxb, nxt_ac])]
      exact hs
  · have e2 : arr 64 (sched l i) = ws.map sl32 := by
      have hi64 : i = 64 := by omega
      rw [← hws, hi64]
      exact arr_full (sched_len l 64)
    clear hge hi
    rw [e2]
    clear e2
    have ldw : ∀ {k : Nat}, k < 64 → nth (ws.map sl32) (0 + k * 1) = some (sl32 (ws.getD k 0)) := fun {k} hk => by
      rw [nth_eq, Nat.zero_add, Nat.mul_one, List.getElem?_map, List.getElem?_eq_getElem (by omega)]
      simp [List.getD, List.getElem?_eq_getElem (show k < ws.length by omega)]
    refine loop_rule (ι := Nat) 4 (fun i => [(2, .c (.p 0 0)), (4, .c (.p 1 0)), (5, .c (.p 2 0)), (9, .c (.p 3 0)), (10, .c (.v (.int .i64 i)))]) (fun i => [⟨3, 184, (rounds s ws i).l.map sl32⟩, ⟨2, 251, ws.map sl32⟩, ⟨1, 184, ti184.zero.map SL.v⟩, ⟨0, 184, s.l.map sl32⟩]) (fun _ => [bsF A l, oddF 3, oldF w])
      (fun i => i ≤ 64) (fun i => 64 - i) 0 (Nat.zero_le _) (Ent.same ⟨rfl, rfl, rfl, rfl, rfl, trivial⟩ rfl) g ?_
    intro j hj
    obtain ⟨r, hr⟩ : ∃ r, rounds s ws j = r := ⟨_, rfl⟩
    rw [hr]
    obtain ⟨xa, xb, xc, xd, xe, xf, xg, xh⟩ := r
    refine BIf.dec (fun hlt => ?_) (fun hge => ?_)
    · have hlt : j < 64 := by omega
      refine ⟨4, rfl, by decide, ?_⟩
      refine draw_rule g p_ostiaryref01_Step_15 (by kernel_rfl) _ _ Sub.refl ?_
      refine ⟨7, rfl, by decide, 5, rfl, by decide, _, and32 _ _, _, not32 _, 6, rfl, by decide, _, and32 _ _, _, xor32 _ _, ?_⟩
      refine ⟨j, rfl, hlt, u32 (K.getD j 0), fun β w' hs => odd_cell3 (hs.get 1 rfl) hlt, j, rfl, hlt, ?_⟩
      conv => whnf
      generalize hn : nth _ _ = o
      obtain rfl : o = some (sl32 (ws.getD j 0)) := hn.symm.trans (ldw hlt)
      clear hn
      refine call_pu (fun β w' hs => turn_c w' xe 6 (by omega) (by omega)) ?_
      refine ⟨Sub.refl, ?_⟩
      refine call_pu (fun β w' hs => turn_c w' xe 11 (by omega) (by omega)) ?_
      refine ⟨Sub.refl, _, xor32 _ _, ?_⟩
      refine call_pu (fun β w' hs => turn_c w' xe 25 (by omega) (by omega)) ?_
      refine ⟨Sub.refl, _, xor32 _ _, _, add32 _ _, _, add32 _ _, _, add32 _ _, _, add32 _ _, ?_⟩
      refine ⟨0, rfl, by decide, ?_⟩
      refine draw_rule g p_ostiaryref01_Step_17 (by kernel_rfl) _ _ Sub.refl ?_
      refine ⟨1, rfl, by decide, _, and32 _ _, 2, rfl, by decide, _, and32 _ _, _, xor32 _ _, 1, rfl, by decide, 2, rfl, by decide, _, and32 _ _, _, xor32 _ _, ?_⟩
      refine call_pu (fun β w' hs => turn_c w' xa 2 (by omega) (by omega)) ?_
      refine ⟨Sub.refl, ?_⟩
      refine call_pu (fun β w' hs => turn_c w' xa 13 (by omega) (by omega)) ?_
      refine ⟨Sub.refl, _, xor32 _ _, ?_⟩
      refine call_pu (fun β w' hs => turn_c w' xa 22 (by omega) (by omega)) ?_
      refine ⟨Sub.refl, _, xor32 _ _, _, add32 _ _, ?_⟩
      refine ⟨_, add32 _ _, 0, rfl, by decide, 1, rfl, by decide, 2, rfl, by decide, 3, rfl, by decide, _, add32 _ _, 4, rfl, by decide, 5, rfl, by decide, 6, rfl, by decide, ?_⟩
      refine ⟨((j + 1 : Nat) : Int), by rw [wrap_i64 (by omega) (by omega)]; rfl, ?_⟩
      refine ⟨j + 1, by omega, by omega, Ent.mk' ⟨rfl, rfl, rfl, rfl, rfl, trivial⟩ rfl (fun β w' hs => ?_)⟩
      have e1 : (rounds s ws (j + 1)).l.map sl32 = (⟨(⟨xa, xb, xc, xd, xe, xf, xg, xh⟩ : S8).x (K.getD j 0) (ws.getD j 0) + ((⟨xa, xb, xc, xd, xe, xf, xg, xh⟩ : S8).y + (⟨xa, xb, xc, xd, xe, xf, xg, xh⟩ : S8).z), xa, xb, xc, xd + (⟨xa, xb, xc, xd, xe, xf, xg, xh⟩ : S8).x (K.getD j 0) (ws.getD j 0), xe, xf, xg⟩ : S8).l.map sl32 := by
        rw [rounds_succ, hr, S8.round, UInt32.add_assoc]
      rw [e1]
      exact hs
    · obtain ⟨t, ht⟩ : ∃ t, (⟨xa, xb, xc, xd, xe, xf, xg, xh⟩ : S8) = t := ⟨_, rfl⟩
      have hst : rounds s ws 64 = t := by
        have : j = 64 := by omega
        rw [← ht, ← hr, this]
      rw [hst, ht]
      clear hst ht hr hge hj
      refine loop_rule (ι := Nat) 4 (fun i => [(2, .c (.p 0 0)), (4, .c (.p 1 0)), (9, .c (.p 3 0)), (165, .c (.v (.int .i64 i)))]) (fun i => [⟨3, 184, t.l.map sl32⟩, ⟨2, 251, ws.map sl32⟩, ⟨1, 184, ti184.zero.map SL.v⟩, ⟨0, 184, mix s t i⟩]) (fun _ => [bsF A l, oddF 3, oldF w])
        (fun i => i ≤ 8) (fun i => 8 - i) 0 (Nat.zero_le _) (Ent.same ⟨rfl, rfl, rfl, rfl, trivial⟩ rfl) g ?_
      intro j hj
      refine BIf.dec (fun hlt => ?_) (fun hge => ?_)
      · have hlt : j < 8 := by omega
        refine draw_rule g p_ostiaryref01_Step_22 (by kernel_rfl) _ _ Sub.refl ?_
        refine ⟨j, rfl, hlt, ?_⟩
        conv => whnf
        generalize hn : nth _ _ = o
        obtain rfl : o = some (sl32 (s.l.getD j 0)) := hn.symm.trans (by
          show nth (mix s t j) (0 + j * 1) = _
          rw [Nat.zero_add, Nat.mul_one]
          exact mix_get s t j hlt)
        clear hn
        refine ⟨j, rfl, hlt, ?_⟩
        conv => whnf
        generalize hn : nth _ _ = o
        obtain rfl : o = some (sl32 (t.l.getD j 0)) := hn.symm.trans (by
          show nth (t.l.map sl32) (0 + j * 1) = _
          rw [Nat.zero_add, Nat.mul_one, nth_eq]
          exact l_get t j hlt)
        clear hn
        refine ⟨_, add32 _ _, j, rfl, hlt, ?_⟩
        conv => whnf
        generalize h1 : Nat.ble _ _ = b1
        obtain rfl : b1 = true := h1.symm.trans (by
          show Nat.ble (0 + j * 1 + 1) (mix s t j).length = true
          rw [mix_len s t j (by omega), Nat.ble_eq]; omega)
        clear h1
        refine ⟨((j + 1 : Nat) : Int), by rw [wrap_i64 (by omega) (by omega)]; rfl, ?_⟩
        refine ⟨j + 1, by omega, by omega, Ent.mk' ⟨rfl, rfl, rfl, rfl, trivial⟩ rfl (fun β w' hs => ?_)⟩
        have e3 : 0 + j * 1 = j := by omega
        rw [← mix_set s t j hlt]
        have hs2 : Sat (cx_ostiaryref01_Step w (Un [])) β 4 [⟨3, 184, t.l.map sl32⟩, ⟨2, 251, ws.map sl32⟩, ⟨1, 184, ti184.zero.map SL.v⟩, ⟨0, 184, putAll (mix s t j) (0 + j * 1) [sl32 (s.l.getD j 0 + t.l.getD j 0)]⟩] [bsF A l, oddF 3, oldF w] w' := hs
        rw [e3] at hs2
        exact hs2
      · obtain rfl : j = 8 := by omega
        intro β w' hs
        exact hs.fin [] ⟨rfl, rfl⟩
end Go.Proofs.YthkjfepbmnabkaaGreatDoor.Sx

/- The document's sum. -/
namespace Go.Proofs.YthkjfepbmnabkaaGreatDoor.Sx
open Go Sha
attribute [local irreducible] Calls

theorem rstep64_c (w : World) (s : S8) (A : Option Addr) (x : List UInt8) (c : Nat) (hx : x.length = 64) (hr : Bs w A x) (hk : (oddF 3).p w) (hc : 64 ≤ c) (hm : c ≤ maxLen) :
    Pu Tryz.prog n_ostiaryref01_Step #[stV s, .slice A 64 c] w (stV (Sha.step s x)) := by
  have := rstep_c w s A x c hr hk (by omega) (by omega) hm
  rw [hx] at this
  exact this
theorem rgo_c (w : World) (s : S8) (A : Option Addr) (l : List UInt8) (c : Nat) (hr : Bs w A l) (hk : (oddF 3).p w) (hc : l.length ≤ c) (hm : c ≤ maxLen) :
    Con Tryz.prog n_ostiaryref01_Go #[stV s, .slice A l.length c] w [] fun v Fs => ∃ A' n' c', v = .tuple #[stV (go (l.length / 64) s l), .slice A' n' c'] ∧ Fs = [] := by
  have g := good_ostiaryref01_Go w (Un [])
  rw [go_eq]
  have hs0 : Sat (cx_ostiaryref01_Go w (Un [])) Va.z 0 [] [oldF w] w := old_sat rfl
  have hs1 : Sat (cx_ostiaryref01_Go w (Un [])) Va.z 0 [] [bsF A l, oddF 3, oldF w] w := (hs0.sub 0 rfl rfl (oddF 3) rfl hk (rd_lt hk)).sub 1 rfl rfl (bsF A l) rfl hr (rd_lt hr)
  have hm' := hm
  rw [maxLen_eq] at hm'
  refine con_of_sx (cx := cx_ostiaryref01_Go w (Un [])) g b_ostiaryref01_Go rfl rfl (β := Va.z) [.agg (s.l.map sl32), .c (.v (.slice A l.length c))] 0 [] [bsF A l, oddF 3, oldF w] rfl rfl hs1 ?_
  refine loop_rule (ι := Nat × Option Addr × Nat) 2 (fun i => [(1, .c (.v (.slice i.2.1 (l.length - 64 * i.1) i.2.2))), (2, .c (.p 0 0)), (4, .c (.p 1 0))]) (fun i => [⟨1, 184, ti184.zero.map SL.v⟩, ⟨0, 184, ((blks l i.1).foldl Sha.step s).l.map sl32⟩]) (fun _ => [bsF A l, oddF 3, oldF w])
    (fun i => 64 * i.1 ≤ l.length ∧ l.length - 64 * i.1 ≤ i.2.2 ∧ i.2.2 ≤ 9223372036854775807 ∧ (∀ w, Bs w A l → Bs w i.2.1 (l.drop (64 * i.1)))) (fun i => l.length - 64 * i.1) (0, A, c)
    ⟨Nat.zero_le _, hc, hm', fun w h => h⟩ (Ent.same ⟨rfl, rfl, rfl, trivial⟩ rfl) g ?_
  rintro ⟨i, B, cap⟩ ⟨hi, hcap, hcm, hB⟩
  simp only at hi hcap hcm hB
  obtain ⟨m, hm2⟩ : ∃ m, l.length - 64 * i = m := ⟨_, rfl⟩
  have hmc : m ≤ cap := by omega
  rw [hm2]
  have hdl : (l.drop (64 * i)).length = m := by rw [List.length_drop]; omega
  obtain ⟨st, hst⟩ : ∃ st, (blks l i).foldl Sha.step s = st := ⟨_, rfl⟩
  rw [hst]
  refine BIf.dec (fun h0 => ?_) (fun h0 => ?_)
  · have hm64 : 64 ≤ m := by omega
    have hbl : (blk l i).length = 64 := by unfold blk; rw [List.length_take, hdl]; omega
    have hS : ∀ {H : List Bk} {n : Nat}, Sub (cx_ostiaryref01_Go w (Un [])) n H [bsF A l, oddF 3, oldF w] [] [bsF A l, oddF 3, oldF w] := fun {H n} => Sub.of (List.nil_sublist _) (List.Sublist.refl _)
    refine draw_rule g p_ostiaryref01_Go_2 (by kernel_rfl) [] [bsF A l, oddF 3, oldF w] hS ?_
    refine ⟨cap, 64, 0, 64, cap, _, rfl, rfl, rfl, Nat.le_refl _, by show 64 ≤ cap; omega, by omega, rfl, rfl, rfl, ?_⟩
    refine ⟨cap, m, 64, m - 64, cap - 64, _, rfl, rfl, rfl, Nat.le_refl _, hmc, hm64, rfl, rfl, rfl, ?_⟩
    refine ⟨hS, ?_⟩
    refine call_pu (fun β w' hs => rstep64_c w' st (cutA B cap 0 1) (blk l i) cap hbl ?_ (hs.get 1 rfl) (by omega) (by rw [maxLen_eq]; exact hcm)) ?_
    · have h7 := Bs.cut (hB w' (hs.get 0 rfl)) (c := cap) (m := cap) (i := 0) (j := 64) (by omega) (.inl rfl) (by omega) (by omega) (by omega)
      have h8 : Rd 1 (cutA B cap 0 1) (blk l i).length ((blk l i).map byte) w' := by rw [hbl]; exact h7
      exact h8
    refine ⟨hS, ?_⟩
    refine ⟨hS, ?_⟩
    refine ⟨(i + 1, cutA B cap 64 1, cap - 64), ⟨by show 64 * (i + 1) ≤ _; omega, by show l.length - 64 * (i + 1) ≤ cap - 64; omega, by show cap - 64 ≤ _; omega, fun w' h => ?_⟩, by show l.length - 64 * (i + 1) < m; omega, Ent.mk' ⟨?_, rfl, rfl, trivial⟩ rfl (fun β w' hs => ?_)⟩
    · have h7 := Bs.cutB (hB w' h) (c := cap) (i := 64) (j := m) (m := l.drop (64 * (i + 1))) (by omega) hm64 (by omega) (by
        rw [List.drop_drop, show 64 * i + 64 = 64 * (i + 1) by omega, List.take_of_length_le]
        rw [List.length_drop]; omega)
      exact h7
    · show _ = some (SV.c (.v (.slice _ (l.length - 64 * (i + 1)) _)))
      rw [show l.length - 64 * (i + 1) = m - 64 by omega]
      rfl
    · rw [blks_succ, List.foldl_append, hst]
      exact hs
  · have hi2 : i = l.length / 64 := by omega
    intro β w' hs
    rw [← hi2, hst]
    exact hs.fin [] ⟨B, m, cap, rfl, rfl⟩

theorem rsum_c (w : World) (A : Option Addr) (l : List UInt8) (c : Nat) (hr : Bs w A l) (hk : (oddF 3).p w) (hn : l.length ≤ 70368744177664) :
    Con Tryz.prog n_ostiaryref01_Sum #[.slice A l.length c] w [] fun v Fs => ∃ A' c', v = .slice A' 32 c' ∧ 32 ≤ c' ∧ c' ≤ maxLen ∧ Fs = [browF ty_uint8 A' (Sha.sum l) c'] := by
  have g := good_ostiaryref01_Sum w (Un [])
  have hs0 : Sat (cx_ostiaryref01_Sum w (Un [])) Va.z 0 [] [oldF w] w := old_sat rfl
  have hs1 : Sat (cx_ostiaryref01_Sum w (Un [])) Va.z 0 [] [bsF A l, oddF 3, oldF w] w := (hs0.sub 0 rfl rfl (oddF 3) rfl hk (rd_lt hk)).sub 1 rfl rfl (bsF A l) rfl hr (rd_lt hr)
  refine con_of_sx (cx := cx_ostiaryref01_Sum w (Un [])) g b_ostiaryref01_Sum rfl rfl (β := Va.z) [.c (.v (.slice A l.length c))] 0 [] [bsF A l, oddF 3, oldF w] rfl rfl hs1 ?_
  obtain ⟨q, hq⟩ : ∃ q, l ++ ends l.length = q := ⟨_, rfl⟩
  have hql : q.length = l.length + (ends l.length).length := by rw [← hq, List.length_append]
  have hel : (ends l.length).length < 73 := by rw [Sha.ends_len]; unfold zeros; omega
  have hsum : Sha.sum l = out (go (q.length / 64) Sha.first q) := by rw [← hq]; rfl
  rw [hsum]
  refine call_pu (fun β w' hs => first_c w') ?_
  intro b
  refine ⟨0, 0, l.length, [], l.map byte, _, rfl, fun β w' hs => hs.get 1 rfl, bytes_one l, Nat.zero_add _, rfl, by rw [maxLen_eq]; omega, by show l.length * 1 ≤ _; omega, ?_⟩
  intro A1 c1 h1 h2 _
  refine ⟨(l.length : Int), by rw [wrap_u64']; omega, ?_⟩
  refine call_con [] (fun β w' hs => tail_c w' l.length (by omega)) ?_
  rintro v Fs ⟨A2, c2, rfl, h3, h4, rfl⟩
  refine ⟨1, l.length, q.length, _, (ends l.length).map byte, q.map byte, rfl, fun β w hs => row_rd (hs.get 0 rfl), bytes_one _, hql.symm, by rw [← hq, List.map_append]; rfl, by rw [maxLen_eq]; omega, by show q.length * 1 ≤ _; omega, ?_⟩
  intro A3 c3 h5 h6 _
  refine call_con [] (fun β w' hs => rgo_c w' Sha.first A3 q c3 (row_rd (hs.get 1 rfl)) (hs.get 3 rfl) h5 h6) ?_
  rintro v Fs ⟨A4, n4, c4, rfl, rfl⟩
  generalize go (q.length / 64) Sha.first q = st
  refine call_con [] (fun β w' hs => out_c w' st) ?_
  rintro v Fs ⟨A5, c5, rfl, h7, h8, rfl⟩
  intro β w' hs
  exact (hs.keepB (List.nil_sublist _)).fin [0] ⟨A5, c5, rfl, h7, h8, rfl⟩
end Go.Proofs.YthkjfepbmnabkaaGreatDoor.Sx

/- Texts as bytes. -/
namespace Go.Proofs.YthkjfepbmnabkaaGreatDoor.Sx
open Go Sha
attribute [local irreducible] Calls

def bl_ (s : ByteArray) : List UInt8 := s.data.toList
end Go.Proofs.YthkjfepbmnabkaaGreatDoor.Sx

/- Secrets compared; texts cut; bytes compared. -/
namespace Go.Proofs.YthkjfepbmnabkaaGreatDoor.Sx
open Go Sha
attribute [local irreducible] Calls

theorem cutText_c (w : World) (s : ByteArray) (k : Nat) (hs : s.size ≤ maxLen) (hk : k ≤ 1000) : Pu Tryz.prog n_ostiaryref01_CutText #[.string s, .int .i64 k] w (.string (s.extract 0 (min s.size k))) := by
  refine pu_of (calls_of_sx (cx := cx_ostiaryref01_CutText w None_) (good_ostiaryref01_CutText w None_) b_ostiaryref01_CutText rfl rfl (β := Va.z) [.c (.v (.string s)), .c (.v (.int .i64 k))] 0 [] [] rfl rfl (Sat.start rfl) ?_)
  refine ⟨((min s.size k : Nat) : Int), by dsimp only; omega, ?_⟩
  refine ⟨min s.size k, 0, rfl, rfl, by omega, Nat.zero_le _, ?_⟩
  intro β w' hs
  exact ⟨rfl, hs.chg⟩

/-- A secret as it lies in memory. -/
structure SecA where
  A0 : Option Addr
  A1 : Option Addr
  A2 : Option Addr
  A3 : Option Addr
  c0 : Nat
  c1 : Nat
  c2 : Nat
  c3 : Nat
  s0 : List UInt8
  s1 : List UInt8
  s2 : List UInt8
  s3 : List UInt8
  it : Int
def SecA.val (x : SecA) : Value := .agg #[.slice x.A0 x.s0.length x.c0, .int .i64 x.it, .slice x.A1 x.s1.length x.c1, .slice x.A2 x.s2.length x.c2, .slice x.A3 x.s3.length x.c3]
def SecA.cells (x : SecA) : List SL := [.v (.slice x.A0 x.s0.length x.c0), .v (.int .i64 x.it), .v (.slice x.A1 x.s1.length x.c1), .v (.slice x.A2 x.s2.length x.c2), .v (.slice x.A3 x.s3.length x.c3)]
structure SecA.Rd (x : SecA) (w : World) : Prop where
  h0 : Bs w x.A0 x.s0
  h1 : Bs w x.A1 x.s1
  h2 : Bs w x.A2 x.s2
  h3 : Bs w x.A3 x.s3

end Go.Proofs.YthkjfepbmnabkaaGreatDoor.Sx

/- Bytes compared without haste. -/
namespace Go.Proofs.YthkjfepbmnabkaaGreatDoor.Sx
open Go Sha
attribute [local irreducible] Calls

theorem ofInt8 (a : UInt8) : BitVec.ofInt 8 (a.toNat : Int) = a.toBitVec := by
  apply BitVec.eq_of_toNat_eq
  rw [BitVec.toNat_ofInt]
  have := a.toNat_lt
  have e : a.toBitVec.toNat = a.toNat := rfl
  rw [e]
  omega
theorem back8 (x : BitVec 8) : IntKind.u8.wrap (x.toNat : Int) = ((UInt8.ofBitVec x).toNat : Int) := by
  rw [wrap_u8]
  have := x.isLt
  have e : (UInt8.ofBitVec x).toNat = x.toNat := rfl
  rw [e]
  omega
theorem xor8 (a b : UInt8) : bits .xor .u8 (a.toNat : Int) (b.toNat : Int) = ((a ^^^ b).toNat : Int) := by
  show IntKind.u8.wrap (((BitVec.ofInt 8 (a.toNat : Int)) ^^^ (BitVec.ofInt 8 (b.toNat : Int))).toNat : Int) = _
  rw [ofInt8, ofInt8, back8]
  rfl
theorem or8 (a b : UInt8) : bits .or .u8 (a.toNat : Int) (b.toNat : Int) = ((a ||| b).toNat : Int) := by
  show IntKind.u8.wrap (((BitVec.ofInt 8 (a.toNat : Int)) ||| (BitVec.ofInt 8 (b.toNat : Int))).toNat : Int) = _
  rw [ofInt8, ofInt8, back8]
  rfl

theorem equal_c (w : World) (A B : Option Addr) (l m : List UInt8) (c d : Nat) (hl : Bs w A l) (hm : Bs w B m) (hn : l.length ≤ 70368744177664) : Pu Tryz.prog n_hmac_Equal #[.slice A l.length c, .slice B m.length d] w (.bool (decide (l = m))) := by
  have g := good_hmac_Equal w None_
  refine pu_of (calls_of_sx (cx := cx_hmac_Equal w None_) g b_hmac_Equal rfl rfl (β := Va.z) [.c (.v (.slice A l.length c)), .c (.v (.slice B m.length d))] 0 [] [oldF w] rfl rfl (old_sat rfl) ?_)
  refine BIf.not (BIf.dec (fun h0 => ?_) (fun h0 => ?_))
  · have hlen : m.length = l.length := by omega
    refine loop_rule (ι := Nat × UInt8) 0 (fun i => [(0, .c (.v (.slice A l.length c))), (1, .c (.v (.slice B m.length d))), (13, .c (.v (.int .i64 l.length))), (14, .c (.v (.int .i64 i.1))), (5, .c (.v (byte i.2)))]) (fun _ => []) (fun _ => [oldF w])
      (fun i => i.1 ≤ l.length ∧ (i.2 = 0 ↔ l.take i.1 = m.take i.1)) (fun i => l.length - i.1) (0, 0) ⟨Nat.zero_le _, by simp⟩ (Ent.same ⟨rfl, rfl, rfl, rfl, rfl, trivial⟩ rfl) g ?_
    rintro ⟨i, acc⟩ ⟨hi, hacc⟩
    simp only at hi hacc
    refine BIf.dec (fun hlt => ?_) (fun hge => ?_)
    · have hlt : i < l.length := by omega
      have hlt2 : i < m.length := by omega
      obtain ⟨ad, hA⟩ := Bs.addr hl (by omega)
      obtain ⟨bd, hB⟩ := Bs.addr hm (by omega)
      refine draw_rule g p_hmac_Equal_7 (by kernel_rfl) _ _ Sub.refl ?_
      refine ⟨ad, i, hA, rfl, hlt, byte l[i], fun β w' hs => Bs.cell (Rd.old hl (hs.get 0 rfl)) hA hlt, ?_⟩
      refine ⟨bd, i, hB, rfl, hlt2, byte m[i], fun β w' hs => Bs.cell (Rd.old hm (hs.get 0 rfl)) hB hlt2, ?_⟩
      refine ⟨_, xor8 _ _, _, or8 _ _, ?_⟩
      refine ⟨((i + 1 : Nat) : Int), by rw [wrap_i64 (by omega) (by omega)]; rfl, ?_⟩
      refine ⟨(i + 1, acc ||| (l[i] ^^^ m[i])), ⟨hlt, ?_⟩, by show l.length - (i + 1) < l.length - i; omega, Ent.same ⟨rfl, rfl, rfl, rfl, rfl, trivial⟩ rfl⟩
      show acc ||| (l[i] ^^^ m[i]) = 0 ↔ l.take (i + 1) = m.take (i + 1)
      rw [take_snoc l i hlt, take_snoc m i hlt2, UInt8.or_eq_zero_iff, UInt8.xor_eq_zero_iff, hacc]
      constructor
      · rintro ⟨h1, h2⟩; rw [h1, h2]
      · intro h
        have := List.append_inj' h rfl
        exact ⟨this.1, by simpa using this.2⟩
    · have hi2 : i = l.length := by omega
      intro β w' hs
      refine ⟨?_, hs.chg⟩
      show Value.bool (decide ((acc.toNat : Int) = 0)) = _
      congr 1
      rw [hi2, List.take_length, List.take_of_length_le (by omega)] at hacc
      refine decide_eq_decide.2 ⟨fun h => hacc.1 (UInt8.toNat_inj.1 (by show acc.toNat = 0; omega)), fun h => by rw [hacc.2 h]; rfl⟩
  · intro β w' hs
    refine ⟨?_, hs.chg⟩
    show Value.bool false = _
    congr 1
    exact (decide_eq_false (fun h => h0 (by rw [h]))).symm
end Go.Proofs.YthkjfepbmnabkaaGreatDoor.Sx

/- Signs: the program's decoding. -/
namespace Go.Proofs.YthkjfepbmnabkaaGreatDoor.Sx
open Go
attribute [local irreducible] Calls

end Go.Proofs.YthkjfepbmnabkaaGreatDoor.Sx

/- Signs: decoded. -/
namespace Go.Proofs.YthkjfepbmnabkaaGreatDoor.Sx
open Go
attribute [local irreducible] Calls

def formV (f : Nam.Fm) : List Value := [.int .i64 (f.size : Int), byte f.mask, byte f.lead, .int .i32 (f.least : Int)]
def formCells : List Value := Nam.fms.flatMap formV
/-- The table of forms. -/
def Forms (g : Nat) (w : World) : Prop := Rd 16 (some ⟨g, 0, none⟩) 1 formCells w
theorem Forms.old {g : Nat} {W w : World} (h : Forms g W) (ho : (oldF W).p w) : Forms g w := Rd.old h ho
def runeI : Option Nat → Int
  | some r => (r : Int)
  | none => -1
end Go.Proofs.YthkjfepbmnabkaaGreatDoor.Sx

/- Signs: spans; the iterator of a text's signs; is it rightly written? -/
namespace Go.Proofs.YthkjfepbmnabkaaGreatDoor.Sx
open Go
attribute [local irreducible] Calls

abbrev Sp := Int × Int
def spanV (x : Sp) : List Value := [.int .i32 x.1, .int .i32 x.2]
def inSp (z : Int) (l : List Sp) : Bool := l.any fun p => decide (p.1 ≤ z) && decide (z ≤ p.2)
/-! ### a text's signs, one by one -/
abbrev Rn := Nat × Int
/-- Where each sign stands, and which it is. -/
def runesAt (l : List UInt8) (i : Nat) : List Rn := if h : i < l.length then (i, runeI (Nam.decL (l.drop i)).1) :: runesAt l (i + max 1 (Nam.decL (l.drop i)).2) else []
termination_by l.length - i
decreasing_by omega
end Go.Proofs.YthkjfepbmnabkaaGreatDoor.Sx

/- Signs: the iterator of a text's signs; is it rightly written? -/
namespace Go.Proofs.YthkjfepbmnabkaaGreatDoor.Sx
open Go
attribute [local irreducible] Calls

def validB (l : List UInt8) : Bool := (Nam.runes l).all Option.isSome
end Go.Proofs.YthkjfepbmnabkaaGreatDoor.Sx

/- Signs: prepared. -/
namespace Go.Proofs.YthkjfepbmnabkaaGreatDoor.Sx
open Go
attribute [local irreducible] Calls

def blanksL : List Sp := [(0xa0, 0xa0), (0x1680, 0x1680), (0x2000, 0x200a), (0x202f, 0x202f), (0x205f, 0x205f), (0x3000, 0x3000)]
def nothingL : List Sp := [(0xad, 0xad), (0x200b, 0x200d), (0x2060, 0x2060), (0xfe00, 0xfe0f), (0xfeff, 0xfeff)]
def barredL : List Sp := [(0, 0x1f), (0x7f, 0x9f), (0x2028, 0x2029), (0x202a, 0x202e), (0x2066, 0x2069), (0xe000, 0xf8ff), (0xf0000, 0x10ffff), (0xfff9, 0xfffd), (0xfdd0, 0xfdef)]
def spansF (g : Nat) (l : List Sp) : Fact := rdF 2 (some ⟨g, 0, none⟩) l.length (l.flatMap spanV)
def prep1 (z : Int) : List Int := if inSp z blanksL = true then [32] else if inSp z nothingL = true then [] else [z]
def prepAt (l : List Rn) : List Int := l.flatMap fun x => prep1 x.2
end Go.Proofs.YthkjfepbmnabkaaGreatDoor.Sx

/- Signs: written. -/
namespace Go.Proofs.YthkjfepbmnabkaaGreatDoor.Sx
open Go
attribute [local irreducible] Calls

def form0 : Nam.Fm := ⟨1, 0x80, 0, 0⟩
def pickF (r : Nat) (f g : Nam.Fm) : Nam.Fm := if g.least ≤ r then g else f
/-- A sign's form. -/
def formOf (r : Nat) : Nam.Fm := Nam.fms.foldl (pickF r) form0
/-- The last k of a sign's bytes. -/
def encGo (f : Nam.Fm) (r : Nat) : Nat → List UInt8
  | 0 => []
  | k + 1 => (if k = f.size - 1 then f.lead ||| UInt8.ofNat (r / 2 ^ (6 * k)) else 128 ||| (UInt8.ofNat (r / 2 ^ (6 * k)) &&& 63)) :: encGo f r k
def encL (r : Nat) : List UInt8 := encGo (formOf r) r (formOf r).size
end Go.Proofs.YthkjfepbmnabkaaGreatDoor.Sx

/- Names, plainly: what goes is nothing. -/
namespace Go.Proofs.YthkjfepbmnabkaaGreatDoor.Sx
open Go

def badZ (z : Int) : Bool := inSp z barredL || decide (bits .and .i32 z 65534 = 65534)
def encZ (z : Int) : List UInt8 := encL z.toNat
/-- A text, prepared; or why not. -/
def prepF (l : List UInt8) : List UInt8 × Int :=
  if validB l = true then if (prepAt (runesAt l 0)).any badZ = true then ([], 5) else ((prepAt (runesAt l 0)).flatMap encZ, 0) else ([], 4)
end Go.Proofs.YthkjfepbmnabkaaGreatDoor.Sx

/- Names: a text, prepared. -/
namespace Go.Proofs.YthkjfepbmnabkaaGreatDoor.Sx
open Go
attribute [local irreducible] Calls

def mkS (l : List UInt8) : ByteArray := ⟨l.toArray⟩
end Go.Proofs.YthkjfepbmnabkaaGreatDoor.Sx

/- Names: sized. -/
namespace Go.Proofs.YthkjfepbmnabkaaGreatDoor.Sx
open Go
attribute [local irreducible] Calls

def sizF (l : List UInt8) (most : Nat) : List UInt8 × Int :=
  if (prepF l).2 = 0 then if (prepF l).1 = [] then ([], 2) else if most < (prepF l).1.length then ([], 3) else ((prepF l).1, 0) else ([], (prepF l).2)
end Go.Proofs.YthkjfepbmnabkaaGreatDoor.Sx

/- The reference's names, plainly: which signs become blanks, go, may not be there; a sign's bytes. -/
namespace Go.Proofs.YthkjfepbmnabkaaGreatDoor.Sx
open Go

theorem hi2 {y : Nat} (h : y < 32) : 192 ||| UInt8.ofNat y = UInt8.ofNat (192 + y) := by
  have key : ∀ n : _root_.Fin 32, 192 ||| UInt8.ofNat n.1 = UInt8.ofNat (192 + n.1) := by decide +kernel
  exact key ⟨y, h⟩
theorem hi3 {y : Nat} (h : y < 16) : 224 ||| UInt8.ofNat y = UInt8.ofNat (224 + y) := by
  have key : ∀ n : _root_.Fin 16, 224 ||| UInt8.ofNat n.1 = UInt8.ofNat (224 + n.1) := by decide +kernel
  exact key ⟨y, h⟩
theorem hi4 {y : Nat} (h : y < 8) : 240 ||| UInt8.ofNat y = UInt8.ofNat (240 + y) := by
  have key : ∀ n : _root_.Fin 8, 240 ||| UInt8.ofNat n.1 = UInt8.ofNat (240 + n.1) := by decide +kernel
  exact key ⟨y, h⟩
end Go.Proofs.YthkjfepbmnabkaaGreatDoor.Sx

/- Names: plain ones. -/
namespace Go.Proofs.YthkjfepbmnabkaaGreatDoor.Sx
open Go
attribute [local irreducible] Calls

def okc (x : UInt8) : Bool := decide ((97 ≤ x.toNat ∧ x.toNat ≤ 122) ∨ (48 ≤ x.toNat ∧ x.toNat ≤ 57) ∨ x.toNat = 45 ∨ x.toNat = 95)
def plainF (l : List UInt8) : Bool := l.all okc && (decide (l ≠ []) && decide (l.length ≤ 32))
end Go.Proofs.YthkjfepbmnabkaaGreatDoor.Sx

/- The reference's signs: the first of a text. -/
namespace Go.Proofs.YthkjfepbmnabkaaGreatDoor.Sx
open Go
attribute [local irreducible] Calls

/-- A first byte that others follow. -/
def lead (b : UInt8) : Option (Nat × Nat) :=
  if 194 ≤ b.toNat ∧ b.toNat ≤ 223 then some (2, b.toNat - 192)
  else if 224 ≤ b.toNat ∧ b.toNat ≤ 239 then some (3, b.toNat - 224)
  else if 240 ≤ b.toNat ∧ b.toNat ≤ 244 then some (4, b.toNat - 240)
  else none
end Go.Proofs.YthkjfepbmnabkaaGreatDoor.Sx

/- Statements one by one: so that a rule stands at each. -/
namespace Go.Proofs.YthkjfepbmnabkaaGreatDoor.Sx
open Go

section
variable {cx : Cx} {n : Nat} {H : List Bk} {F : List Fact} {w : World}
theorem calls_of_tri {f : FuncId} {fn : Func} {c : Code} {R : Value → World → Prop} (g : Good cx) (hf : cx.P.funcs[f]? = some fn) (hb : fn.body = some c) (hN : fn.ntmps = cx.N)
    {β : Va} (svs : List SV) (n : Nat) (H : List Bk) (F : List Fact) (hlen : Nat.ble svs.length cx.N = true) (hltB : allLt n svs = true) (hs : Sat cx β n H F w)
    (hw : Tri cx c (fnPost cx fn.results.toList R) n (pairs 0 svs) H F) (hr : cx.rnd = none := by rfl) (hm : β.marks = [] := by rfl) (hp0 : cx.pn = [] := by rfl) :
    Calls cx.P f (svs.map (SV.val β)).toArray w fun e w' => ∃ v, e = .returned v ∧ R v w' := by
  have hfe : cx.fence = Fence.wide := by unfold Cx.fence; rw [hr]
  refine (callsIn_wide (n := 0)).1 (callsIn_of_wp_marks hf hb trivial ?_)
  have hlt := allLt_mem hltB
  have hlen' : svs.length ≤ cx.N := Nat.le_of_ble_eq_true hlen
  have hi : Inv cx β n (pairs 0 svs) H F { tmps := (svs.map (SV.val β)).toArray ++ Array.replicate (fn.ntmps - (svs.map (SV.val β)).toArray.size) undef, defers := [] } w := by
    refine ⟨fun t s ht => ?_, ?_, by rw [hm]; rfl, fun t s ht => ?_, hs⟩
    · obtain ⟨j, rfl, hj⟩ := pairs_get svs 0 t s ht
      have hjl : j < svs.length := (List.getElem?_eq_some_iff.1 hj).1
      rw [Array.getElem?_append_left (by simp; omega)]
      simp [hj]
    · simp [hN]; omega
    · obtain ⟨j, rfl, hj⟩ := pairs_get svs 0 t s ht
      exact hlt s (List.mem_of_getElem? hj)
  have h0 := hw.run β _ w hi
  rw [hfe] at h0
  refine wpIn_mono h0 fun e a' w' hq => ?_
  have key : After cx (RetWP cx fn.results.toList R) a' w' → LeavesInM Fence.wide 0 cx.P fn a'.tmps (fun e w' => ∃ v, e = .returned v ∧ R v w') a'.defers .returning w' := by
    rintro ⟨β', n', env', H', F', h', hp⟩
    rw [← hfe]
    have hd := h'.df
    obtain ⟨tmps, defers⟩ := a'
    simp only at hd
    subst hd
    exact leaves_sx g hr hp0 _ β' w' rfl h' hp
  cases e with
  | normal => exact key hq
  | ret => exact key hq
  | exit id => obtain ⟨_, _, _, _, _, _, hq⟩ := hq; exact hq.elim
  | goto l => obtain ⟨_, _, _, _, _, _, hq⟩ := hq; exact hq.elim
  | panic ch => exact hq.elim
  | outgrown => exact hq.elim
theorem con_of_tri {f : FuncId} {fn : Func} {c : Code} {Gs : List Fact} {R : Value → List Fact → Prop} (g : Good cx) (hf : cx.P.funcs[f]? = some fn) (hb : fn.body = some c) (hN : fn.ntmps = cx.N)
    {β : Va} (svs : List SV) (n : Nat) (H : List Bk) (F : List Fact) (hlen : Nat.ble svs.length cx.N = true) (hltB : allLt n svs = true) (hs : Sat cx β n H F w)
    (hw : Tri cx c (fnPost cx fn.results.toList (Fin w Gs R)) n (pairs 0 svs) H F) (hr : cx.rnd = none := by rfl) (hm : β.marks = [] := by rfl) (hp0 : cx.pn = [] := by rfl) :
    Con cx.P f (svs.map (SV.val β)).toArray w Gs R := calls_of_tri g hf hb hN svs n H F hlen hltB hs hw hr hm hp0
theorem tri_seq (g : Good cx) {c1 c2 : Code} {Q : Exit → KT} {env : Env} (h : cwp cx c1 (andThen (fun n env H F => Tri cx c2 Q n env H F) Q) n env H F) : Tri cx (.seq c1 c2) Q n env H F := by
  refine ⟨fun β a w hi => wpIn_seq (wpIn_mono ((cwp_sound g c1 _ n env H F h).run β a w hi) fun e a w hq => ?_)⟩
  cases e with
  | normal =>
    obtain ⟨β', n', env', H', F', h', hq'⟩ := hq
    exact hq'.run β' a w h'
  | exit i => exact hq
  | goto l => exact hq
  | ret => exact hq
  | panic c => exact hq
  | outgrown => exact hq
theorem tri_of (g : Good cx) {c : Code} {Q : Exit → KT} {env : Env} (h : cwp cx c Q n env H F) : Tri cx c Q n env H F := cwp_sound g c Q n env H F h
end
theorem tri_seqJ {cx : Cx} {n : Nat} {H : List Bk} {F : List Fact} {ι : Type} (g : Good cx) {c1 c2 : Code} {Q : Exit → KT} {env : Env} (T : ι → Prop) (n' : Nat) (E : ι → Env) (HH : ι → List Bk) (FF : ι → List Fact) (hkey : ∀ i, T i → Tri cx c2 Q n' (E i) (HH i) (FF i))
    (h : cwp cx c1 (andThen (fun n env H F => EntX cx n env H F T n' E HH FF) Q) n env H F) : Tri cx (.seq c1 c2) Q n env H F := by
  refine ⟨fun β a w hi => wpIn_seq (wpIn_mono ((cwp_sound g c1 _ n env H F h).run β a w hi) fun e a w hq => ?_)⟩
  cases e with
  | normal =>
    obtain ⟨β', n', env', H', F', h', hq'⟩ := hq
    exact (tri_join T _ E HH FF hkey hq').run β' a w h'
  | exit i => exact hq
  | goto l => exact hq
  | ret => exact hq
  | panic c => exact hq
  | outgrown => exact hq
end Go.Proofs.YthkjfepbmnabkaaGreatDoor.Sx

/- The reference's names: what becomes a blank, what goes, what may not be there; a sign's bytes. -/
namespace Go.Proofs.YthkjfepbmnabkaaGreatDoor.Sx
open Go
attribute [local irreducible] Calls

end Go.Proofs.YthkjfepbmnabkaaGreatDoor.Sx

/- The reference's names: the sign in front. -/
namespace Go.Proofs.YthkjfepbmnabkaaGreatDoor.Sx
open Go
attribute [local irreducible] Calls

end Go.Proofs.YthkjfepbmnabkaaGreatDoor.Sx

/- The reference's names: a text's signs; a sign's bytes. -/
namespace Go.Proofs.YthkjfepbmnabkaaGreatDoor.Sx
open Go
attribute [local irreducible] Calls

end Go.Proofs.YthkjfepbmnabkaaGreatDoor.Sx

/- The reference's names: prepared; sized; plain ones. -/
namespace Go.Proofs.YthkjfepbmnabkaaGreatDoor.Sx
open Go
attribute [local irreducible] Calls

end Go.Proofs.YthkjfepbmnabkaaGreatDoor.Sx

/- Bytes of one's own that are only read; facts that are known better; bundles opened at one place. -/
namespace Go.Proofs.YthkjfepbmnabkaaGreatDoor.Sx
open Go
attribute [local irreducible] Calls

/-- Bytes of one's own, to be read. -/
structure Ro where
  A : Option Addr
  c : Nat
  l : List UInt8
def Ro.v (r : Ro) : Value := .slice r.A r.l.length r.c
def Ro.f (r : Ro) : Fact := rdoF 1 r.A r.l.length (r.l.map byte)
theorem rdo_rd {size : Nat} {A : Option Addr} {k : Nat} {xs : List Value} {w : World} (h : (rdoF size A k xs).p w) : Rd size A k xs w := h
theorem browRoD {e : Nat} {A : Option Addr} {l : List UInt8} {c : Nat} {w : World} (h : (browF e A l c).p w) : ∀ k, (Ro.f ⟨A, c, l⟩).D k → (browF e A l c).D k := by
  rintro k ⟨hk, ad, q, rfl⟩
  have hl : 0 < l.length := by
    have : 0 < l.length * 1 := hk
    omega
  have q' : A = some ad := q
  rcases h.2 with ⟨he, h0⟩ | ⟨g, cap, cur, he, _⟩
  · omega
  · have hA : A = some ⟨g, 0, none⟩ := by injection he
    rw [q'] at hA
    obtain rfl := Option.some.inj hA
    show Value.ownBlock (.slice A l.length c) = _
    rw [q']
    rfl
/-- Owned facts that are known better, each on its own memory. -/
inductive Recs (w' : World) : List Fact → List Fact → Prop
  | nil : Recs w' [] []
  | cons {f g : Fact} {Fs Gs : List Fact} (h : g.own = true ∧ (f.p w' → g.p w') ∧ ∀ k, g.D k → f.D k) (r : Recs w' Fs Gs) : Recs w' (f :: Fs) (g :: Gs)
theorem Fin.recast {w : World} {Gs : List Fact} {R R' : Value → List Fact → Prop} {v : Value} {w' : World} (h : Fin w Gs R v w')
    (hr : ∀ Fs, R v Fs → (∀ f ∈ Fs, f.p w') → ∃ Fs', R' v Fs' ∧ Recs w' Fs Fs') : Fin w Gs R' v w' := by
  obtain ⟨Fs, h1, h2, h3, h4, h5⟩ := h
  obtain ⟨Fs', q1, q2⟩ := hr Fs h1 h3.fact
  have key : ∀ {Fs Fs' : List Fact}, Recs w' Fs Fs' → Mem w' Fs → Owns Fs → Mem w' Fs' ∧ Owns Fs' ∧ ∀ g ∈ Fs', ∃ f ∈ Fs, ∀ k, g.D k → f.D k := by
    intro Fs Fs' hf
    induction hf with
    | nil => intro _ _; exact ⟨⟨fun _ q => (by cases q), fun _ q => (by cases q), List.Pairwise.nil⟩, trivial, fun _ q => (by cases q)⟩
    | @cons f g Fs Fs' hfg hrest ih =>
      intro hm ho
      obtain ⟨i1, i2, i3⟩ := ih ⟨fun x hx => hm.fact x (List.mem_cons_of_mem _ hx), fun x hx => hm.flt x (List.mem_cons_of_mem _ hx), (List.pairwise_cons.1 hm.sepf).2⟩ ho.2
      refine ⟨⟨fun x hx => ?_, fun x hx k hk => ?_, List.pairwise_cons.2 ⟨fun x hx _ k hk hk' => ?_, i1.sepf⟩⟩, ⟨hfg.1, i2⟩, fun x hx => ?_⟩
      · rcases List.mem_cons.1 hx with rfl | hx
        · exact hfg.2.1 (hm.fact f List.mem_cons_self)
        · exact i1.fact x hx
      · rcases List.mem_cons.1 hx with rfl | hx
        · exact hm.flt f List.mem_cons_self k (hfg.2.2 k hk)
        · exact i1.flt x hx k hk
      · obtain ⟨y, hy, hyd⟩ := i3 x hx
        exact (List.pairwise_cons.1 hm.sepf).1 y hy (.inl ho.1) k (hfg.2.2 k hk) (hyd k hk')
      · rcases List.mem_cons.1 hx with rfl | hx
        · exact ⟨f, List.mem_cons_self, hfg.2.2⟩
        · obtain ⟨y, hy, hyd⟩ := i3 x hx
          exact ⟨y, List.mem_cons_of_mem _ hy, hyd⟩
  obtain ⟨k1, k2, k3⟩ := key q2 h3 h4
  exact ⟨Fs', q1, h2, k1, k2, fun g hg k hk => by obtain ⟨f, hf, hfd⟩ := k3 g hg; exact h5 f hf k (hfd k hk)⟩
/-! ### a bundle is opened at one place -/
theorem Un.cons {x : Fact} {B : List Fact} {k : Nat} : Un (x :: B) k ↔ x.D k ∨ Un B k := by
  unfold Un
  constructor
  · rintro ⟨g, hg, hk⟩
    rcases List.mem_cons.1 hg with rfl | h
    · exact .inl hk
    · exact .inr ⟨g, h, hk⟩
  · rintro (hk | ⟨g, hg, hk⟩)
    · exact ⟨x, List.mem_cons_self, hk⟩
    · exact ⟨g, List.mem_cons_of_mem _ hg, hk⟩
section
variable {cx : Cx} {β : Va} {n : Nat} {H : List Bk} {F : List Fact} {w : World}
end

end Go.Proofs.YthkjfepbmnabkaaGreatDoor.Sx

/- Who there is: a store, plainly; and in memory. -/
namespace Go.Proofs.YthkjfepbmnabkaaGreatDoor.Sx
open Go

/-! ### plainly -/
structure ASec where
  salt : List UInt8
  iter : Int
  stored : List UInt8
  server : List UInt8
  ha1 : List UInt8
structure ACrd where
  tenant : ByteArray
  user : ByteArray
  sec : ASec
  gen : Nat
  roles : List ByteArray
  revoked : Bool
abbrev ATs := List (ByteArray × List ACrd)
structure ASto where
  ts : ATs
  last : Nat
  reads : Int
def aten : ATs → ByteArray → Option (List ACrd)
  | [], _ => none
  | (k, us) :: r, t => if k = t then some us else aten r t
def ausr : List ACrd → ByteArray → Option ACrd
  | [], _ => none
  | c :: r, n => if c.user = n then some c else ausr r n
def atenU : ATs → ByteArray → (List ACrd → List ACrd) → ATs
  | [], _, _ => []
  | (k, us) :: r, t, f => if k = t then (k, f us) :: r else (k, us) :: atenU r t f
def ausrU : List ACrd → ByteArray → (ACrd → ACrd) → List ACrd
  | [], _, _ => []
  | c :: r, n, f => if c.user = n then f c :: r else c :: ausrU r n f
def aget (X : ASto) (t n : ByteArray) : Option ACrd := (aten X.ts t).bind fun us => ausr us n
def nameA (s : ByteArray) : ByteArray × Int := (mkS (sizF s.data.toList 32).1, (sizF s.data.toList 32).2)
/-- A user by any form of his name. -/
def aone (X : ASto) (t u : ByteArray) : Option ACrd := if (nameA u).2 = 0 then aget X t (nameA u).1 else none
def saltedA (l : List UInt8) (iter : Int) : Bool := decide (1 ≤ l.length) && (decide (l.length ≤ 32) && (decide (1 ≤ iter) && decide (iter ≤ 64)))
def rightA (x : ASec) : Bool := saltedA x.salt x.iter && (decide (x.stored.length = 32) && (decide (x.server.length = 32) && decide (x.ha1.length = 32)))
def greatN : Nat := 9007199254740992

/-! ### in memory -/
structure Sec where
  salt : Ro
  iter : Int
  stored : Ro
  server : Ro
  ha1 : Ro
def Sec.vs (x : Sec) : List Value := [x.salt.v, .int .i64 x.iter, x.stored.v, x.server.v, x.ha1.v]
def Sec.fs (x : Sec) : List Fact := [x.salt.f, x.stored.f, x.server.f, x.ha1.f]
def Sec.a (x : Sec) : ASec := ⟨x.salt.l, x.iter, x.stored.l, x.server.l, x.ha1.l⟩
/-- Texts of one's own. -/
def strsF (A : Option Addr) (l : List ByteArray) : Fact := rdoF 1 A l.length (l.map Value.string)
structure Crd where
  b : Nat
  tenant : ByteArray
  user : ByteArray
  sec : Sec
  gen : Nat
  rA : Option Addr
  rc : Nat
  roles : List ByteArray
  revoked : Bool
def Crd.vs (c : Crd) : List Value := .string c.tenant :: .string c.user :: (c.sec.vs ++ [.int .u64 c.gen, .slice c.rA c.roles.length c.rc, .bool c.revoked])
def Crd.parts (c : Crd) : List Fact := strsF c.rA c.roles :: c.sec.fs
def Crd.fs (c : Crd) : List Fact := bkF c.b ty_cred_Cred c.vs :: c.parts
def Crd.a (c : Crd) : ACrd := ⟨c.tenant, c.user, c.sec.a, c.gen, c.roles, c.revoked⟩
def ptr (b : Nat) : Value := .pointer (some ⟨b, 0, none⟩)
structure Ten where
  b : Nat
  name : ByteArray
  us : List Crd
def Ten.m (T : Ten) : ML := T.us.map fun c => (c.user, ptr c.b)
def Ten.a (T : Ten) : ByteArray × List ACrd := (T.name, T.us.map Crd.a)
structure Sto where
  b : Nat
  m : Nat
  ts : List Ten
  last : Nat
  reads : Int
def Sto.vs (S : Sto) : List Value := [.map (some S.m), .int .u64 (S.last : Int), .int .u64 S.reads]
def Sto.a (S : Sto) : ASto := ⟨S.ts.map Ten.a, S.last, S.reads⟩

/-! ### a map of what is there -/
end Go.Proofs.YthkjfepbmnabkaaGreatDoor.Sx

/- Who there is: looked for. -/
namespace Go.Proofs.YthkjfepbmnabkaaGreatDoor.Sx
open Go
attribute [local irreducible] Calls

/-- The tables that names want. -/
structure NamT (w : World) : Prop where
  f : Forms 7 w
  s5 : (spansF 5 blanksL).p w
  s6 : (spansF 6 nothingL).p w
  s4 : (spansF 4 barredL).p w
theorem NamT.old {W w : World} (h : NamT W) (ho : (oldF W).p w) : NamT w := ⟨Forms.old h.f ho, Rd.old h.s5 ho, Rd.old h.s6 ho, Rd.old h.s4 ho⟩
theorem NamT.sat {cx : Cx} {β : Va} {n : Nat} {H : List Bk} {F : List Fact} {w : World} (hs : Sat cx β n H F w) (j : Nat) {W : World} (hj : nth F j = some (oldF W)) (h : NamT W) : NamT w := h.old (hs.get j hj)
/-! ### what a store's fact gives -/
/-! ### the greatest generation; a touch -/
end Go.Proofs.YthkjfepbmnabkaaGreatDoor.Sx

/- Who there is: secrets and credentials copied; a touch. -/
namespace Go.Proofs.YthkjfepbmnabkaaGreatDoor.Sx
open Go
attribute [local irreducible] Calls

/-- A secret as it is handed about: four slices and a number. -/
structure SecV where
  A1 : Option Addr
  n1 : Nat
  c1 : Nat
  it : Int
  A2 : Option Addr
  n2 : Nat
  c2 : Nat
  A3 : Option Addr
  n3 : Nat
  c3 : Nat
  A4 : Option Addr
  n4 : Nat
  c4 : Nat
def SecV.vs (x : SecV) : List Value := [.slice x.A1 x.n1 x.c1, .int .i64 x.it, .slice x.A2 x.n2 x.c2, .slice x.A3 x.n3 x.c3, .slice x.A4 x.n4 x.c4]
def SecV.ss (x : SecV) : List SL := [.v (.slice x.A1 x.n1 x.c1), .v (.int .i64 x.it), .v (.slice x.A2 x.n2 x.c2), .v (.slice x.A3 x.n3 x.c3), .v (.slice x.A4 x.n4 x.c4)]
def saltedN (n : Nat) (it : Int) : Bool := decide (1 ≤ n) && (decide (n ≤ 32) && (decide (1 ≤ it) && decide (it ≤ 64)))
def rightN (x : SecV) : Bool := saltedN x.n1 x.it && (decide (x.n2 = 32) && (decide (x.n3 = 32) && decide (x.n4 = 32)))
/-- A secret that is read. -/
structure SRd (x : SecV) (a : ASec) (w : World) : Prop where
  n1 : x.n1 = a.salt.length
  it : x.it = a.iter
  n2 : x.n2 = a.stored.length
  n3 : x.n3 = a.server.length
  n4 : x.n4 = a.ha1.length
  r1 : Bs w x.A1 a.salt
  r2 : Bs w x.A2 a.stored
  r3 : Bs w x.A3 a.server
  r4 : Bs w x.A4 a.ha1
theorem SRd.old {x : SecV} {a : ASec} {W w : World} (h : SRd x a W) (ho : (oldF W).p w) : SRd x a w := ⟨h.n1, h.it, h.n2, h.n3, h.n4, Rd.old h.r1 ho, Rd.old h.r2 ho, Rd.old h.r3 ho, Rd.old h.r4 ho⟩
theorem SRd.right {x : SecV} {a : ASec} {w : World} (h : SRd x a w) : rightN x = rightA a := by
  unfold rightN rightA saltedN saltedA
  rw [h.n1, h.it, h.n2, h.n3, h.n4]
def Sec.x (y : Sec) : SecV := ⟨y.salt.A, y.salt.l.length, y.salt.c, y.iter, y.stored.A, y.stored.l.length, y.stored.c, y.server.A, y.server.l.length, y.server.c, y.ha1.A, y.ha1.l.length, y.ha1.c⟩
theorem Sec.rd {y : Sec} {w : World} (h : ∀ f ∈ y.fs, f.p w) : SRd y.x y.a w :=
  ⟨rfl, rfl, rfl, rfl, rfl, h y.salt.f (by simp [Sec.fs]), h y.stored.f (by simp [Sec.fs]), h y.server.f (by simp [Sec.fs]), h y.ha1.f (by simp [Sec.fs])⟩
/-! ### texts -/
/-! ### a touch -/
end Go.Proofs.YthkjfepbmnabkaaGreatDoor.Sx

/- Names and passwords, by the program and by the reference. -/
namespace Go.Proofs.YthkjfepbmnabkaaGreatDoor.Sx
open Go
attribute [local irreducible] Calls

end Go.Proofs.YthkjfepbmnabkaaGreatDoor.Sx

/- A block's step, where the state is the front of a block. -/
namespace Go.Proofs.YthkjfepbmnabkaaGreatDoor.Sx
open Go Sha
attribute [local irreducible] Calls

end Go.Proofs.YthkjfepbmnabkaaGreatDoor.Sx

/- A term's print: a number in bytes of seven bits. -/
namespace Go.Proofs.YthkjfepbmnabkaaGreatDoor.Sx
open Go
attribute [local irreducible] Calls

theorem or128 (n : Nat) : bits .or .u8 (((UInt8.ofNat n).toNat : Nat) : Int) 128 = ((UInt8.ofNat (n % 128 + 128)).toNat : Int) := by
  show IntKind.u8.wrap (((BitVec.ofInt 8 ((UInt8.ofNat n).toNat : Int)) ||| (BitVec.ofInt 8 128)).toNat : Int) = _
  have h1 : BitVec.ofInt 8 (((UInt8.ofNat n).toNat : Nat) : Int) = BitVec.ofNat 8 n := by
    apply BitVec.eq_of_toNat_eq
    rw [BitVec.toNat_ofInt, BitVec.toNat_ofNat, UInt8.toNat_ofNat']
    omega
  have h2 : BitVec.ofNat 8 n ||| BitVec.ofInt 8 128 = BitVec.ofNat 8 (n % 128 + 128) := by
    have h3 : BitVec.ofNat 8 n = BitVec.ofNat 8 (n % 256) := by
      apply BitVec.eq_of_toNat_eq
      rw [BitVec.toNat_ofNat, BitVec.toNat_ofNat]
      omega
    have h4 : n % 128 = n % 256 % 128 := by omega
    rw [h3, h4]
    have h5 : n % 256 < 256 := Nat.mod_lt _ (by omega)
    have key : ∀ k, k < 256 → BitVec.ofNat 8 k ||| BitVec.ofInt 8 128 = BitVec.ofNat 8 (k % 128 + 128) := by decide +kernel
    exact key _ h5
  rw [h1, h2, BitVec.toNat_ofNat, wrap_u8, UInt8.toNat_ofNat']
  omega

theorem vint_len : ∀ (k n : Nat), n < 128 ^ (k + 1) → (Bx.vint n).length ≤ k + 1
  | 0, n, h => by rw [Bx.vint_lt (by simpa using h)]; simp
  | k + 1, n, h => by
    by_cases hn : n < 128
    · rw [Bx.vint_lt hn]; simp
    · rw [Bx.vint_ge hn, List.length_cons]
      have := vint_len k (n / 128) (by rw [Nat.pow_succ] at h; omega)
      omega
theorem vint_nine {n : Nat} (h : n < 4611686018427387904) : (Bx.vint n).length ≤ 9 := vint_len 8 n (by omega)
/-- A slice of bytes in a variable. -/
def varF (b : Nat) (A : Option Addr) (l : List UInt8) (c : Nat) : List Fact := [bkF b ty_sl_uint8 [.slice A l.length c], browF ty_uint8 A l c]
structure LgS where
  n : Nat
  A : Option Addr
  l : List UInt8
  c : Nat
theorem long7_c (w : World) (b n : Nat) (A : Option Addr) (l : List UInt8) (c : Nat) (hn : n < 4611686018427387904) (hl : l.length ≤ 1000000000) (hm : Mem w (varF b A l c)) :
    Con Tryz.prog n_box_Term_print_1 #[.int .i64 n, .pointer (some ⟨b, 0, none⟩)] w (varF b A l c) fun v Fs => v = .tuple #[] ∧ ∃ A' c', Fs = varF b A' (l ++ Bx.vint n) c' := by
  have g := good_box_Term_print_1 w (Un (varF b A l c))
  refine con_of_sx (cx := cx_box_Term_print_1 w (Un (varF b A l c))) g b_box_Term_print_1 rfl rfl (β := Va.z) [.c (.v (.int .i64 n)), .c (.v (.pointer (some ⟨b, 0, none⟩)))] 0 [] _ rfl rfl (hm.sat0 rfl (fun f hf _ k hk => ⟨f, hf, hk⟩)) ?_
  refine loop_rule (ι := LgS) 0 (fun i => [(0, .c (.v (.int .i64 i.n))), (1, .c (.v (.pointer (some ⟨b, 0, none⟩))))]) (fun _ => []) (fun i => varF b i.A i.l i.c)
    (fun i => i.n < 4611686018427387904 ∧ i.l ++ Bx.vint i.n = l ++ Bx.vint n) (fun i => i.n) ⟨n, A, l, c⟩ ⟨hn, rfl⟩ (Ent.same ⟨rfl, rfl, trivial⟩ rfl) g ?_
  rintro ⟨m, A1, l1, c1⟩ ⟨hm1, he⟩
  simp only at hm1 he
  have hl1 : l1.length ≤ 1000000009 := by
    have h1 := congrArg List.length he
    simp only [List.length_append] at h1
    have h2 := vint_nine hn
    omega
  have hcell : ∀ (w' : World) (A : Option Addr) (l : List UInt8) (c : Nat), (bkF b ty_sl_uint8 [.slice A l.length c]).p w' → w'.cell? ⟨b, 0, none⟩ = some (.slice A l.length c) := fun w' A l c h => by
    have hb : w'.heap[b]? = some (.cells #[.slice A l.length c] ty_sl_uint8 (0, 0)) := h
    rw [cell_of_row w' b 0 _ _ _ hb]; rfl
  refine BIf.dec (fun hge => ?_) (fun hlt => ?_)
  · have hge0 : (128 : Int) ≤ (m : Int) := hge
    have hnl : ¬ m < 128 := by omega
    refine ⟨.slice A1 l1.length c1, fun β w' hs => hcell _ _ _ _ (hs.get 0 rfl), ?_⟩
    refine ⟨_, wrap_u8b m, _, or128 m, ?_⟩
    intro b2
    refine ⟨2, l1.length, l1.length + 1, l1.map byte, [byte (UInt8.ofNat (m % 128 + 128))], (l1 ++ [UInt8.ofNat (m % 128 + 128)]).map byte, rfl, fun β w' hs => row_rd (hs.get 0 rfl), bytes_one [UInt8.ofNat (m % 128 + 128)], rfl, by simp, by rw [maxLen_eq]; omega, by show (l1.length + 1) * 1 ≤ _; omega, ?_⟩
    intro A' c' h1 h2 h3
    refine ⟨_, fun β w' hs => hs.bkSet 1 (o := 0) (us := [.slice A' (l1.length + 1) c']) rfl (Nat.le_refl 1) (fun u hu => by obtain rfl := List.mem_singleton.1 hu; rfl), ?_⟩
    refine ⟨by decide, ((m / 128 : Nat) : Int), shr_nat m 7, ?_⟩
    refine ⟨⟨m / 128, A', l1 ++ [UInt8.ofNat (m % 128 + 128)], c'⟩, ⟨by show m / 128 < _; omega, ?_⟩, by show m / 128 < m; omega, ?_⟩
    · show l1 ++ [UInt8.ofNat (m % 128 + 128)] ++ Bx.vint (m / 128) = _
      rw [← he, Bx.vint_ge hnl]
      simp
    · refine Ent.mk' ⟨rfl, rfl, trivial⟩ rfl ?_
      intro β w' hs
      have e : (l1 ++ [UInt8.ofNat (m % 128 + 128)]).length = l1.length + 1 := by simp
      have hs2 := hs.perm [1, 2]
      show Sat _ _ _ _ (varF b A' (l1 ++ [UInt8.ofNat (m % 128 + 128)]) c') _
      unfold varF browF
      rw [e]
      exact hs2
  · have hlt0 : ¬ (128 : Int) ≤ (m : Int) := hlt
    have hl : m < 128 := by omega
    refine ⟨.slice A1 l1.length c1, fun β w' hs => hcell _ _ _ _ (hs.get 0 rfl), ?_⟩
    refine ⟨_, wrap_u8b m, ?_⟩
    intro b2
    refine ⟨2, l1.length, l1.length + 1, l1.map byte, [byte (UInt8.ofNat m)], (l1 ++ [UInt8.ofNat m]).map byte, rfl, fun β w' hs => row_rd (hs.get 0 rfl), bytes_one [UInt8.ofNat m], rfl, by simp, by rw [maxLen_eq]; omega, by show (l1.length + 1) * 1 ≤ _; omega, ?_⟩
    intro A' c' h1 h2 h3
    refine ⟨_, fun β w' hs => hs.bkSet 1 (o := 0) (us := [.slice A' (l1.length + 1) c']) rfl (Nat.le_refl 1) (fun u hu => by obtain rfl := List.mem_singleton.1 hu; rfl), ?_⟩
    intro β w' hs
    have e0 : l ++ Bx.vint n = l1 ++ [UInt8.ofNat m] := by rw [← he, Bx.vint_lt hl]
    have e : (l1 ++ [UInt8.ofNat m]).length = l1.length + 1 := by simp
    refine hs.fin [1, 2] ⟨rfl, A', c', ?_⟩
    rw [e0]
    unfold varF browF
    rw [e]
    rfl
end Go.Proofs.YthkjfepbmnabkaaGreatDoor.Sx

/- Boxes: a new one; how many terms it has. -/
namespace Go.Proofs.YthkjfepbmnabkaaGreatDoor.Sx
open Go Sha
attribute [local irreducible] Calls

/-- A box's own block: is it symbolic, is it full; its terms' slice, its map. -/
def boxF (b : Nat) (sym full : Bool) (L m : Value) : Fact := bkF b ty_box_Box [.bool sym, .bool full, L, m]
theorem new_c (w : World) (sym : Bool) : Con Tryz.prog n_box_New #[.bool sym] w [] fun v Fs => ∃ b m, v = .pointer (some ⟨b, 0, none⟩) ∧ Fs = [boxF b sym false (.slice none 0 0) (.map (some m)), mapF m []] := by
  refine con_of_sx (cx := cx_box_New w (Un [])) (good_box_New w (Un [])) b_box_New rfl rfl (β := Va.z) [.c (.v (.bool sym))] 0 [] [] rfl rfl (Sat.start rfl) ?_
  intro m
  intro β w' hs
  exact hs.ofBk.fin [0, 1] ⟨β 0, m, rfl, rfl⟩ rfl rfl rfl ⟨rfl, rfl, trivial⟩
end Go.Proofs.YthkjfepbmnabkaaGreatDoor.Sx

/- A plain box's hash of one part. -/
namespace Go.Proofs.YthkjfepbmnabkaaGreatDoor.Sx
open Go Sha
attribute [local irreducible] Calls

theorem hash1_c (w : World) (b : Nat) (full : Bool) (L m : Value) (P A : Option Addr) (cP c : Nat) (l : List UInt8) (hb : (boxF b false full L m).p w) (hP : Rd 1 P 1 [.slice A l.length c] w) (hr : Bs w A l) (hn : l.length ≤ 70368744177664) (h1 : (oddF 2).p w) (h0 : (firstF 0).p w) :
    Con Tryz.prog n_box_Box_Hash #[.pointer (some ⟨b, 0, none⟩), .slice P 1 cP] w [] fun v Fs => ∃ A' c', v = .slice A' 32 c' ∧ 32 ≤ c' ∧ c' ≤ maxLen ∧ Fs = [browF ty_uint8 A' (Sha.sum l) c'] := by
  refine con_of_sx (cx := cx_box_Box_Hash w (Un [])) (good_box_Box_Hash w (Un [])) b_box_Box_Hash rfl rfl (β := Va.z) [.c (.v (.pointer (some ⟨b, 0, none⟩))), .c (.v (.slice P 1 cP))] 0 [] [oldF w] rfl rfl (old_sat rfl) ?_
  refine ⟨.bool false, fun β w' hs => ?_, ?_⟩
  · have hb' : w.heap[b]? = some (.cells #[.bool false, .bool full, L, m] ty_box_Box (0, 0)) := hb
    have hlt : b < w.heap.size := (Array.getElem?_eq_some_iff.1 hb').1
    have h2 := (hs.get 0 rfl : (oldF w).p w') b hlt
    rw [hb'] at h2
    show w'.cell? ⟨b, 0, none⟩ = _
    rw [cell_of_row w' b 0 _ _ _ h2]
    rfl
  refine call_con [] (fun β w' hs => sum1_c w' P A cP c l (hP.old (hs.get 0 rfl)) (hr.old (hs.get 0 rfl)) hn (Rd.old h1 (hs.get 0 rfl)) (Rd.old h0 (hs.get 0 rfl))) ?_
  rintro v Fs ⟨A3, c3, rfl, q1, q2, rfl⟩
  intro β w' hs
  exact hs.fin [0] ⟨A3, c3, rfl, q1, q2, rfl⟩
end Go.Proofs.YthkjfepbmnabkaaGreatDoor.Sx

/- Texts joined: the library's contract as ours; the message. -/
namespace Go.Proofs.YthkjfepbmnabkaaGreatDoor.Sx
open Go Sha
attribute [local irreducible] Calls

theorem chg_of {w w' : World} (h : RowKit.Below w.heap.size w w') : Chg None_ w w' := ⟨h.os, h.tape, h.output, h.size, fun k hk _ => h.block k hk⟩
def joinB (xs : List ByteArray) (sep : ByteArray) : ByteArray := ⟨(Lib.join (xs.map (·.data.toList)) sep.data.toList).toArray⟩
theorem join_c (w : World) (b c : Nat) (xs : List ByteArray) (sep : ByteArray) (hP : Rd 1 (some ⟨b, 0, none⟩) xs.length (xs.map Value.string) w) (hb : b < w.heap.size) (hN : xs.length ≤ 1000) (hcap : xs.length ≤ c) (hlen : (Lib.join (xs.map (·.data.toList)) sep.data.toList).length ≤ 140737488355328) :
    Pu Tryz.prog n_strings_Join #[.slice (some ⟨b, 0, none⟩) xs.length c, .string sep] w (.string (joinB xs sep)) := by
  refine pu_of (Calls.mono (Tryz.strings_Join b 0 c xs sep w (fun j x hx => ?_) hb (by omega) hcap hlen) ?_)
  · have hj : j < xs.length := (List.getElem?_eq_some_iff.1 hx).1
    obtain ⟨ad, h1, h2⟩ := hP.2 (by omega)
    obtain rfl := Option.some.inj h1
    have := h2 j (.string x) (by rw [List.getElem?_map, hx]; rfl)
    rw [add_none] at this
    exact this
  · rintro e w' ⟨rfl, hw⟩
    exact ⟨_, rfl, rfl, chg_of hw⟩
end Go.Proofs.YthkjfepbmnabkaaGreatDoor.Sx

/- Parts of bytes joined; a term's print. -/
namespace Go.Proofs.YthkjfepbmnabkaaGreatDoor.Sx
open Go
attribute [local irreducible] Calls

theorem Bs.holds {w : World} {A : Option Addr} {l : List UInt8} (h : Bs w A l) (c : Nat) : Lib.HoldsBytes w (.slice A l.length c) l := by
  refine ⟨A, c, rfl, fun q => ?_, fun a q i x hx => ?_⟩
  · subst q
    rcases Nat.eq_zero_or_pos l.length with h0 | h0
    · exact List.eq_nil_of_length_eq_zero h0
    · obtain ⟨ad, q, _⟩ := h.2 h0; cases q
  · have hi : i < l.length := (List.getElem?_eq_some_iff.1 hx).1
    obtain ⟨ad, q2, hc⟩ := h.2 (by omega)
    rw [q] at q2
    obtain rfl := Option.some.inj q2
    exact hc i (byte x) (by simp [hx])
theorem join_nil (ls : List (List UInt8)) : Lib.join ls [] = ls.flatten := by
  simp [Lib.join, List.intercalate]
  induction ls with
  | nil => rfl
  | cons a r ih =>
    cases r with
    | nil => simp
    | cons b r => simp [ih]
theorem lens_flat (ls : List (List UInt8)) : Lib.lens ls = ls.flatten.length := by
  simp [Lib.lens, List.length_flatten]
/-- A new slice of bytes, to be read. -/
def readOut (l : List UInt8) (v : Value) (Fs : List Fact) : Prop := ∃ A c, v = .slice A l.length c ∧ l.length ≤ c ∧ c ≤ maxLen ∧ Fs = [rdoF 1 A l.length (l.map byte)]
theorem fin_read {w w' : World} {A : Option Addr} {l : List UInt8} {c : Nat} (hr : Bs w' A l) (hc : Chg None_ w w') (hD : ∀ k, (bsF A l).D k → w.heap.size ≤ k) (h1 : l.length ≤ c) (h2 : c ≤ maxLen) : Fin w [] (readOut l) (.slice A l.length c) w' := by
  refine ⟨[rdoF 1 A l.length (l.map byte)], ⟨A, c, rfl, h1, h2, rfl⟩, by rw [Un.nil]; exact hc, ⟨fun g hg => ?_, fun g hg k hk => ?_, List.pairwise_singleton _ _⟩, ⟨rfl, trivial⟩, fun g hg k hk => ?_⟩
  · obtain rfl := List.mem_singleton.1 hg; exact hr
  · obtain rfl := List.mem_singleton.1 hg; exact rd_lt hr k hk
  · obtain rfl := List.mem_singleton.1 hg; exact .inr (hD k hk)
theorem fresh_fin {w w' : World} {v : Value} {l : List UInt8} (hf : Lib.FreshBytes w.heap.size w' v l) (hb : RowKit.Below w.heap.size w w') : Fin w [] (readOut l) v w' := by
  obtain ⟨g, cap, zs, rfl, hg, h1, h2, hz, hz2, hbo, hc, _⟩ := hf
  refine fin_read ?_ (chg_of hb) ?_ h1 h2
  · refine ⟨by simp, fun hp => ⟨_, rfl, fun j u hu => ?_⟩⟩
    rw [List.getElem?_map] at hu
    obtain ⟨x, hx, rfl⟩ := Option.map_eq_some_iff.1 hu
    have hj : j < l.length := (List.getElem?_eq_some_iff.1 hx).1
    rw [add_none, Nat.zero_add, hc j (by omega)]
    have hj2 : j < zs.length := by omega
    have h3 : (Lib.bytesOf (zs.take l.length))[j]? = some x := by rw [hbo]; exact hx
    rw [Lib.bytesOf, List.getElem?_map, List.getElem?_take, if_pos hj, List.getElem?_eq_getElem hj2] at h3
    have h4 : UInt8.ofNat zs[j].toNat = x := by simpa using h3
    have h5 : zs.getD j 0 = zs[j] := by simp [hj2]
    have h6 := hz2 zs[j] (List.getElem_mem hj2)
    have h7 : (x.toNat : Int) = zs[j] := by
      rw [← h4, UInt8.toNat_ofNat']
      omega
    rw [h5, ← h7]
    rfl
  · rintro k ⟨_, ad, q, rfl⟩
    obtain rfl := Option.some.inj q
    exact hg

/-- Two parts or more, joined. -/
theorem joinN_c (w : World) (b c : Nat) (vs : List Value) (ls : List (List UInt8)) (hP : Rd 1 (some ⟨b, 0, none⟩) ls.length vs w) (hH : ∀ (i : Nat) v l, vs[i]? = some v → ls[i]? = some l → Lib.HoldsBytes w v l) (h2 : 2 ≤ ls.length) (hcap : ls.length ≤ c) (hn : ls.length ≤ 1000) (hlen : ls.flatten.length ≤ 140737488355328) :
    Con Tryz.prog n_bytes_Join #[.slice (some ⟨b, 0, none⟩) ls.length c, .slice none 0 0] w [] (readOut ls.flatten) := by
  refine con_of_calls (Calls.mono (Tryz.bytes_Join_many b 0 ls.length c vs ls (.slice none 0 0) [] w rfl h2 ⟨by have := hP.1; omega, fun i v hv => ?_, hH⟩ hcap ⟨none, 0, rfl, fun _ => rfl, fun a q => by cases q⟩ (by omega) (by rw [lens_flat]; simpa using hlen)) ?_)
  · obtain ⟨ad, q, hc⟩ := hP.2 (by omega)
    obtain rfl := Option.some.inj q
    exact hc i v hv
  · rintro e w' ⟨v, rfl, hf, hb⟩
    rw [join_nil] at hf
    exact ⟨v, rfl, fresh_fin hf hb⟩
end Go.Proofs.YthkjfepbmnabkaaGreatDoor.Sx

/- SHA-256 of parts. -/
namespace Go.Proofs.YthkjfepbmnabkaaGreatDoor.Sx
open Go Sha
attribute [local irreducible] Calls

theorem Mem.lastRo {w : World} {f R X : Fact} {A : Option Addr} {l : List UInt8} (h : Mem w [f, R, X, rdoF 1 A l.length (l.map byte)]) : Mem w [f, R, X, bsF A l] := by
  refine ⟨fun g hg => ?_, fun g hg k hk => ?_, ?_⟩
  · simp only [List.mem_cons, List.not_mem_nil, or_false] at hg
    rcases hg with rfl | rfl | rfl | rfl
    · exact h.fact _ (by simp)
    · exact h.fact _ (by simp)
    · exact h.fact _ (by simp)
    · exact h.fact (rdoF 1 A l.length (l.map byte)) (by simp)
  · simp only [List.mem_cons, List.not_mem_nil, or_false] at hg
    rcases hg with rfl | rfl | rfl | rfl
    · exact h.flt _ (by simp) k hk
    · exact h.flt _ (by simp) k hk
    · exact h.flt _ (by simp) k hk
    · exact h.flt (rdoF 1 A l.length (l.map byte)) (by simp) k hk
  · have hs := h.sepf
    simp only [List.pairwise_cons, List.mem_cons, List.not_mem_nil, or_false, forall_eq_or_imp, forall_eq, false_implies, implies_true, List.Pairwise.nil, and_true] at hs ⊢
    obtain ⟨⟨a1, a2, a3⟩, ⟨b1, b2⟩, c1⟩ := hs
    exact ⟨⟨a1, a2, fun _ => a3 (.inr rfl)⟩, ⟨b1, fun _ => b2 (.inr rfl)⟩, fun _ => c1 (.inr rfl)⟩
theorem sumJ_c (w : World) (P : Option Addr) (nP cP : Nat) (l : List UInt8) (hj : ∀ w', (oldF w).p w' → Con Tryz.prog n_bytes_Join #[.slice P nP cP, .slice none 0 0] w' [] (readOut l)) (hn : l.length ≤ 70368744177664) (h1 : (oddF 2).p w) (h0 : (firstF 0).p w) :
    Con Tryz.prog n_sha_Sum #[.slice P nP cP] w [] fun v Fs => ∃ A' c', v = .slice A' 32 c' ∧ 32 ≤ c' ∧ c' ≤ maxLen ∧ Fs = [browF ty_uint8 A' (Sha.sum l) c'] := by
  have g := good_sha_Sum w (Un [])
  have hs0 : Sat (cx_sha_Sum w (Un [])) Va.z 0 [] [oldF w] w := old_sat rfl
  have hs1 : Sat (cx_sha_Sum w (Un [])) Va.z 0 [] [oddF 2, oldF w] w := hs0.sub 0 rfl rfl _ rfl h1 (rd_lt h1)
  refine con_of_sx (cx := cx_sha_Sum w (Un [])) g b_sha_Sum rfl rfl (β := Va.z) [.c (.v (.slice P nP cP))] 0 [] [oddF 2, oldF w] rfl rfl hs1 ?_
  refine ⟨Sha.first.l.map u32, rfl, fun β w' hs j u hu => ?_, ?_⟩
  · have h2 : Rd 1 (some ⟨0, 0, none⟩) 8 (Sha.first.l.map u32) w' := Rd.old h0 (hs.get 1 rfl)
    obtain ⟨ad, h3, h4⟩ := h2.2 (by decide)
    obtain rfl := Option.some.inj h3
    exact h4 j u hu
  refine call_con [] (fun β w' hs => hj w' (hs.get 1 rfl)) ?_
  rintro v Fs ⟨A1, c1, rfl, h2, h3, rfl⟩
  refine call_con [] (fun β w' hs => Blocks_c w' A1 l.length c1) ?_
  rintro v Fs ⟨bx, rfl, rfl⟩
  refine reify_rule g 0 (fun _ => Sha.first.l.map u32) rfl rfl (fun _ => rfl) (fun sb => ?_)
  obtain ⟨q, hq⟩ : ∃ q, l ++ ends l.length = q := ⟨_, rfl⟩
  have hsum : Sha.sum l = out ((blks q (q.length / 64)).foldl Sha.step Sha.first) := by rw [← go_eq, ← hq]; rfl
  rw [hsum]
  refine range_rule (α := List UInt8) (ι := S8) (κ := S8) g rfl (cv := [.pointer (some ⟨bx, 0, none⟩)]) rfl (by kernel_rfl) 1 (Nat.le_refl 1)
    (fun pre s => s = pre.foldl Sha.step Sha.first) (fun _ => []) (fun s => [stF sb 212 s]) (fun _ => ⟨rfl, trivial⟩)
    (fun _ _ _ => False) (fun _ => []) (fun _ => []) (fun _ => trivial)
    [bkF bx ty_sl_uint8 [.slice A1 l.length c1]] [rdoF 1 A1 l.length (l.map byte)] [oddF 2] ⟨rfl, trivial⟩ (fun g hg => by obtain rfl := List.mem_singleton.1 hg; rfl)
    Sha.first rfl (fun β w' hs => ⟨β, Agr.refl _ _, hs.perm [1, 2, 0, 3]⟩) (fun _ => insB)
    (fun xs Fs' => xs = blks q (q.length / 64) ∧ Fs' = []) (fun _ Fs' => Fs' = [])
    (fun l' w' f0 R J Jx hJ0 hJo hRo hY hm => (blocks_it l' w' bx A1 l c1 f0 R J Jx hJ0 hJo hRo hY hn hm.lastRo).mono fun _ Fs h => by rw [hq] at h; exact h) ?_ ?_ ?_
  · rintro s pre x args X W S l' bs pn pn' hbs hpre ⟨hx, B, rfl, rfl⟩
    refine ⟨_, rfl, ?_⟩
    refine call_con [1] (fun β w' hs => step64_c w' sb 212 s B x hx (hs.mem.take (js := [1, 0, 2]) rfl)) ?_
    rintro v Fs ⟨rfl, rfl⟩
    refine ⟨Sha.step s x, by show Sha.step s x = (pre ++ [x]).foldl Sha.step Sha.first; rw [List.foldl_append, hpre]; rfl, Ent.mk' trivial rfl (fun β w' hs => ?_)⟩
    exact hs.weaken (List.Sublist.refl _) (List.Sublist.cons_cons _ (List.nil_sublist _))
  · rintro xs s Fs hpre ⟨rfl, rfl⟩
    refine call_con [0] (fun β w' hs => stbytes_c w' sb 212 s (hs.mem.take (js := [0]) rfl)) ?_
    rintro v Fs ⟨A3, c3, rfl, h5, h6, rfl⟩
    intro β w' hs
    refine hs.fin [1] ⟨A3, c3, rfl, h5, h6, ?_⟩
    rw [← hpre]
    rfl
  · rintro e pre s Fs h _
    exact h.elim
end Go.Proofs.YthkjfepbmnabkaaGreatDoor.Sx

/- Sums that need a key, plainly. -/
namespace Go.Proofs.YthkjfepbmnabkaaGreatDoor.Sx
open Go

/-- A key's bytes. -/
def keyL (l : List UInt8) : List UInt8 := if 64 < l.length then Sha.sum l else l
def padL (l : List UInt8) (x : UInt8) : List UInt8 := (keyL l).map (x ^^^ ·) ++ List.replicate (64 - (keyL l).length) x
def hmL (key text : List UInt8) : List UInt8 := Sha.sum (padL key 0x5c ++ Sha.sum (padL key 0x36 ++ text))
/-- The round n's sum of a password that is stretched. -/
def strU (pass salt : List UInt8) : Nat → List UInt8
  | 0 => hmL pass (salt ++ Bx.be4 1)
  | n + 1 => hmL pass (strU pass salt n)
def strX (pass salt : List UInt8) : Nat → List UInt8
  | 0 => strU pass salt 0
  | n + 1 => Bx.xorB (strX pass salt n) (strU pass salt (n + 1))
def stretchL (pass salt : List UInt8) (rounds : Nat) : List UInt8 := strX pass salt (rounds - 1)
theorem sum_len (l : List UInt8) : (Sha.sum l).length = 32 := rfl
theorem keyL_len {l : List UInt8} : (keyL l).length ≤ 64 := by
  unfold keyL
  split
  · rw [sum_len]; omega
  · omega
theorem padL_len (l : List UInt8) (x : UInt8) : (padL l x).length = 64 := by
  unfold padL
  have := keyL_len (l := l)
  simp only [List.length_append, List.length_map, List.length_replicate]
  omega
theorem hmL_len (k t : List UInt8) : (hmL k t).length = 32 := rfl
end Go.Proofs.YthkjfepbmnabkaaGreatDoor.Sx

/- A byte sixty-four times; a key's bytes, each turned. -/
namespace Go.Proofs.YthkjfepbmnabkaaGreatDoor.Sx
open Go
attribute [local irreducible] Calls

section
variable {cx : Cx} {β : Va} {n : Nat} {env : Env} {H : List Bk} {F : List Fact} {w : World}
/-- copy, into a block of one's own, of cells of one. -/
theorem Sat.copyBk (h : Sat cx β n H F w) (g : Good cx) (j : Nat) {b o k c e m cs r : Nat} {A : Option Addr} {cells ys : List Value} (hj : nth F j = some (bkF b e cells)) (hr : Rd 1 A m ys w) (h1 : ∀ u ∈ ys, u.oneCell' = true)
    {t : TypeId} {i ie : TI} (ty : TypeId) (cst : Array Bool) (hm : min m k = r) (hfit : o + r ≤ cells.length) (hi : lk cx.tt t = some i := by rfl) (hd : i.desc = .slice e := by rfl) (hie : lk cx.tt e = some ie := by rfl) (hz : ie.size = 1 := by rfl) :
    ∃ w', (builtin .copy #[t, t] ty cst #[.slice (some ⟨b, o, none⟩) k c, .slice A m cs]).run cx.P w = .ok (.value (.int .i64 (r : Int))) w' ∧
      Sat cx β n H (putAt F j (bkF b e (putAll cells o (ys.take r)))) w' := by
  subst hm
  have ht := (g.ti hi).real (d := .slice _) hd rfl
  have tie := g.ti hie
  have hrt := hr.take (k := min m k) (Nat.min_le_left _ _)
  have hsz := tie.run_size w
  rw [hz] at hsz
  have hfc : (Builtin.firstCells 1 (min m k) (.slice A m cs)).run cx.P w = .ok (ys.take (min m k)).toArray w := by
    cases A with
    | none =>
      have h0 : min m k = 0 := by
        rcases Nat.eq_zero_or_pos (min m k) with q | q
        · exact q
        · obtain ⟨ad, q, _⟩ := hrt.2 q; cases q
      rw [h0]
      rfl
    | some ad =>
      have hl := run_loadCells_list (P := cx.P) (w := w) ad (ys.take (min m k)) (fun j u hu => by
        have hp : 0 < min m k := by
          rcases Nat.eq_zero_or_pos (min m k) with q | q
          · rw [q] at hu; simp at hu
          · exact q
        obtain ⟨ad', q, hc⟩ := hrt.2 hp
        obtain rfl := Option.some.inj q
        exact hc j u hu)
      have hlen : (ys.take (min m k)).length = min m k := by rw [hrt.1, Nat.mul_one]
      rw [hlen] at hl
      simpa [Builtin.firstCells] using hl
  obtain ⟨w', e1, e2⟩ := h.bkSet (us := ys.take (min m k)) (o := o) j hj (by rw [hrt.1]; omega) (fun u hu => h1 u (List.take_subset _ _ hu))
  rw [add_none, Nat.zero_add] at e1
  refine ⟨w', ?_, e2⟩
  have hmin : Nat.min m k = min m k := rfl
  simp [builtin, Builtin.copy_, run_underlying ht, Builtin.lenOf, hsz, hfc, e1, goInt, hmin]
end
/-- The front of a block, as a slice. -/
theorem bk_rd {b e : Nat} {cells : List Value} {w : World} (h : (bkF b e cells).p w) {k : Nat} (hk : k ≤ cells.length) : Rd 1 (some ⟨b, 0, none⟩) k (cells.take k) w := by
  refine ⟨by rw [List.length_take]; omega, fun _ => ⟨_, rfl, fun j u hu => ?_⟩⟩
  rw [List.getElem?_take] at hu
  split at hu
  · rw [add_none, Nat.zero_add]
    have h' : w.heap[b]? = some (.cells cells.toArray e (0, 0)) := h
    rw [cell_of_row w b j _ _ _ h']
    simpa using hu
  · cases hu
theorem bk_bs {b e : Nat} {l : List UInt8} {junk : List Value} {w : World} (h : (bkF b e (l.map byte ++ junk)).p w) : Bs w (some ⟨b, 0, none⟩) l := by
  have := bk_rd h (k := l.length) (by simp)
  rwa [List.take_left' (by simp)] at this
theorem mul_c (w : World) : Pu Tryz.prog n_math_bits_Mul #[.int .u64 1, .int .u64 64] w (.tuple #[.int .u64 0, .int .u64 64]) := by
  refine pu_of (Calls.mono (Tryz.bits_Mul 1 64 (by decide) (by decide) w) ?_)
  rintro e w' ⟨rfl, rfl⟩
  exact ⟨_, rfl, rfl, Chg.refl _ _⟩
theorem mnz_run (w : World) (n : Nat) (hn : n ≤ 281474976710656) : ∃ cs : List Value, (callFunc 144 #[.int .i64 n]).run Tryz.prog w = .ok (.value (.slice (some ⟨w.heap.size, 0, none⟩) n cs.length)) (w.drew.drew.alloc (.cells cs.toArray ty_uint8)) ∧ n ≤ cs.length := by
  obtain ⟨cs, h1, h2, _⟩ := Lib.run_makeNoZero (P := Tryz.prog) w #[] ty_sl_uint8 ty_uint8 ((ok23).real (d := .slice _) rfl rfl) n hn
  refine ⟨cs.toList, ?_, by simpa using h2⟩
  have hx := run_callFunc_extern (P := Tryz.prog) (f := 144) (fn := Tryz.f144) (e := Extern.BytealgMakeNoZero.makeNoZero #[ty_int] #[ty_sl_uint8]) Tryz.func144 (by decide +kernel) rfl (by rfl) (by rfl) #[.int .i64 n] w
  rw [hx]
  have h1' : (Extern.BytealgMakeNoZero.makeNoZero #[ty_int] #[ty_sl_uint8] #[.int .i64 n]).run Tryz.prog w = _ := h1
  rw [h1']
  simp
end Go.Proofs.YthkjfepbmnabkaaGreatDoor.Sx

/- A byte sixty-four times. -/
namespace Go.Proofs.YthkjfepbmnabkaaGreatDoor.Sx
open Go
attribute [local irreducible] Calls

theorem putAll_app {α : Type} (a b ys : List α) (h : ys.length ≤ b.length) : putAll (a ++ b) a.length ys = a ++ ys ++ b.drop ys.length := by
  rw [putAll_all _ _ _ (by simp; omega)]
  rw [List.take_left' rfl, List.drop_append]
  simp [show a.length + ys.length - a.length = ys.length by omega]
theorem cutA_at (b k : Nat) {m : Nat} (h : m ≠ k) : cutA (some ⟨b, 0, none⟩) m k 1 = some ⟨b, k, none⟩ := by
  unfold cutA
  rw [if_neg h]
  simp [add_none]
theorem cutA_0 (A : Option Addr) {m : Nat} (h : A = none ∨ ∃ b o, A = some ⟨b, o, none⟩) : cutA A m 0 1 = A := by
  unfold cutA
  split
  · rfl
  · rcases h with rfl | ⟨b, o, rfl⟩
    · rfl
    · simp [add_none]
def reps (k : Nat) (x : UInt8) : List Value := (List.replicate k x).map byte
theorem reps_len (k : Nat) (x : UInt8) : (reps k x).length = k := by simp [reps]
theorem reps_take {k r : Nat} (x : UInt8) (h : r ≤ k) : (reps k x).take r = reps r x := by
  unfold reps
  rw [← List.map_take, List.take_replicate, Nat.min_eq_left h]
theorem reps_add (k r : Nat) (x : UInt8) : reps k x ++ reps r x = reps (k + r) x := by
  unfold reps
  rw [← List.map_append, List.replicate_append_replicate]
theorem reps_one (k : Nat) (x : UInt8) : ∀ u ∈ reps k x, u.oneCell' = true := bytes_one _
set_option maxHeartbeats 1000000 in
theorem repeat64_c (w : World) (B : Option Addr) (cB : Nat) (x : UInt8) (hr : Rd 1 B 1 [byte x] w) :
    Con Tryz.prog n_bytes_Repeat #[.slice B 1 cB, .int .i64 64] w [] fun v Fs => ∃ b junk, v = .slice (some ⟨b, 0, none⟩) 64 64 ∧ Fs = [bkF b ty_uint8 (reps 64 x ++ junk)] := by
  have g := good_bytes_Repeat w (Un [])
  refine con_of_sx (cx := cx_bytes_Repeat w (Un [])) g b_bytes_Repeat rfl rfl (β := Va.z) [.c (.v (.slice B 1 cB)), .c (.v (.int .i64 64))] 0 [] [oldF w] rfl rfl (old_sat rfl) ?_
  refine ⟨1, by decide, 64, by decide, ?_⟩
  refine call_pu (fun β w' hs => mul_c w') ?_
  refine ⟨64, by decide, ?_⟩
  refine .inr (fun β w' hs => ?_)
  obtain ⟨cs, hrun, hcs⟩ := mnz_run w' 64 (by decide)
  have hs1 : Sat (cx_bytes_Repeat w (Un [])) β 0 [] (bkF w'.heap.size ty_uint8 cs :: [oldF w]) (w'.drew.drew.alloc (.cells cs.toArray ty_uint8)) := by
    refine hs.drew.drew.add (Chg.alloc _ _) _ (heap_alloc_new _ _) (fun k hk => ?_)
    obtain rfl : k = w'.heap.size := hk
    exact ⟨Nat.le_refl _, by simp⟩
  refine ⟨_, _, hrun, Ret.mk [] _ hs1 ?_⟩
  obtain ⟨b, hb⟩ : ∃ b, w'.heap.size = b := ⟨_, rfl⟩
  rw [hb]
  clear hs1 hrun hs
  refine ⟨64, 64, 0, 64, 64, some ⟨b, 0, none⟩, rfl, rfl, rfl, hcs, Nat.le_refl _, Nat.zero_le _, rfl, rfl, cutA_0 _ (.inr ⟨b, 0, rfl⟩), ?_⟩
  refine ⟨[], [bkF b ty_uint8 (reps 1 x ++ cs.drop 1), oldF w], .c (.v (.int .i64 1)), fun β w' ty hs => ?_, trivial, ?_⟩
  · obtain ⟨w2, q1, q2⟩ := hs.copyBk g 0 rfl (hr.old (hs.get 1 rfl)) (reps_one 1 x) ty (t := ty_sl_uint8) #[false, false] (r := 1) (k := 64) (m := 1) (c := 64) (cs := cB) (o := 0) rfl (by omega)
    have e1 : putAll cs 0 ([byte x].take 1) = reps 1 x ++ cs.drop 1 := by
      have := putAll_app [] cs [byte x] (by simp; omega)
      show putAll cs 0 [byte x] = [byte x] ++ cs.drop 1
      simpa using this
    rw [e1] at q2
    exact ⟨w2, q1, q2⟩
  refine loop_rule (ι := Nat × List Value) 0 (fun i => [(7, .c (.v (.int .i64 64))), (8, .c (.v (.int .i64 64))), (9, .c (.v (.slice (some ⟨b, 0, none⟩) 64 64))), (10, .c (.v (.int .i64 (i.1 : Int))))]) (fun _ => []) (fun i => [bkF b ty_uint8 (reps i.1 x ++ i.2), oldF w])
    (fun i => 1 ≤ i.1 ∧ i.1 ≤ 64 ∧ 64 ≤ i.1 + i.2.length) (fun i => 64 - i.1) (1, cs.drop 1) ⟨Nat.le_refl _, by show 1 ≤ 64; decide, by simp only [List.length_drop]; omega⟩ (Ent.same ⟨rfl, rfl, rfl, rfl, trivial⟩ rfl) g ?_
  rintro ⟨k, junk⟩ ⟨h1, h2, h3⟩
  simp only at h1 h2 h3
  refine BIf.dec (fun hlt => ?_) (fun hge => ?_)
  · have hlt0 : (k : Int) < 64 := hlt
    have hk : k < 64 := by omega
    obtain ⟨r, hr0⟩ : ∃ r, min k (64 - k) = r := ⟨_, rfl⟩
    refine ⟨(k : Int), by show min (k : Int) 64 = k; omega, ?_⟩
    refine draw_rule g p_bytes_Repeat_20 (by kernel_rfl) [] [] (Sub.of (List.Sublist.refl _) (List.nil_sublist _)) ?_
    refine ⟨64, 64, k, 64 - k, 64 - k, some ⟨b, k, none⟩, rfl, rfl, rfl, Nat.le_refl _, Nat.le_refl _, by omega, rfl, rfl, cutA_at b k (by omega), ?_⟩
    refine ⟨64, k, 0, k, 64, some ⟨b, 0, none⟩, rfl, rfl, rfl, Nat.le_refl _, by omega, Nat.zero_le _, rfl, rfl, cutA_0 _ (.inr ⟨b, 0, rfl⟩), ?_⟩
    refine ⟨[], [bkF b ty_uint8 (reps (k + r) x ++ junk.drop r), oldF w], .c (.v (.int .i64 (r : Int))), fun β w' ty hs => ?_, trivial, ?_⟩
    · have hrd : Rd 1 (some ⟨b, 0, none⟩) k (reps k x) w' := by
        have := bk_rd (hs.get 0 rfl) (k := k) (by simp [reps_len])
        rwa [List.take_left' (reps_len k x)] at this
      obtain ⟨w2, q1, q2⟩ := hs.copyBk g 0 rfl hrd (reps_one k x) ty (t := ty_sl_uint8) #[false, false] (r := r) (k := 64 - k) (m := k) (c := 64 - k) (cs := 64) (o := k) hr0 (by simp only [List.length_append, reps_len]; omega)
      have e1 : putAll (reps k x ++ junk) k ((reps k x).take r) = reps (k + r) x ++ junk.drop r := by
        have := putAll_app (reps k x) junk ((reps k x).take r) (by rw [List.length_take, reps_len]; omega)
        rw [reps_len] at this
        rw [this, reps_take x (by omega), reps_add, reps_len]
      rw [e1] at q2
      exact ⟨w2, q1, q2⟩
    refine ⟨Sub.of (List.Sublist.refl _) (List.nil_sublist _), ((k + r : Nat) : Int), by rw [wrap_i64 (by omega) (by omega)]; omega, ?_⟩
    exact ⟨(k + r, junk.drop r), ⟨by show 1 ≤ k + r; omega, by show k + r ≤ 64; omega, by show 64 ≤ k + r + (junk.drop r).length; rw [List.length_drop]; omega⟩, by show 64 - (k + r) < 64 - k; omega, Ent.same ⟨rfl, rfl, rfl, rfl, trivial⟩ rfl⟩
  · have hge0 : ¬ (k : Int) < 64 := hge
    obtain rfl : k = 64 := by omega
    intro β w' hs
    exact hs.fin [0] ⟨b, junk, rfl, rfl⟩

/-! ### a key's bytes, each turned -/
def padN (k : List UInt8) (x : UInt8) (i : Nat) : List UInt8 := (k.take i).map (x ^^^ ·) ++ List.replicate (64 - i) x
theorem padN_len {k : List UInt8} {x : UInt8} {i : Nat} (h : i ≤ k.length) (h2 : i ≤ 64) : (padN k x i).length = 64 := by
  unfold padN
  simp only [List.length_append, List.length_map, List.length_take, List.length_replicate]
  omega
theorem padN_at {k : List UInt8} {x : UInt8} {i : Nat} (h : i < k.length) (h2 : i < 64) : (padN k x i)[i]? = some x := by
  unfold padN
  rw [List.getElem?_append_right (by simp only [List.length_map, List.length_take]; omega)]
  simp only [List.length_map, List.length_take]
  rw [List.getElem?_replicate, if_pos (by omega)]
theorem padN_set {k : List UInt8} {x y : UInt8} {i : Nat} (h : k[i]? = some y) (h2 : i < 64) : (padN k x i).set i (x ^^^ y) = padN k x (i + 1) := by
  have hi : i < k.length := (List.getElem?_eq_some_iff.1 h).1
  unfold padN
  rw [List.set_append_right _ _ (by simp only [List.length_map, List.length_take]; omega)]
  simp only [List.length_map, List.length_take]
  rw [show i - min i k.length = 0 by omega, show 64 - i = (64 - (i + 1)) + 1 by omega, List.replicate_succ, List.set_cons_zero, List.take_add_one, h]
  simp
theorem padN_all (k : List UInt8) (x : UInt8) : padN k x k.length = k.map (x ^^^ ·) ++ List.replicate (64 - k.length) x := by
  unfold padN
  rw [List.take_length]
theorem Con.real {P : Program} {k : FuncId} {args : Array Value} {w : World} {Gs : List Fact} {R : Value → List Fact → Prop} (h : Con P k args w Gs R) : Con P k args w Gs (fun v Fs => R v Fs ∧ ∃ w', Mem w' Fs) :=
  Calls.mono h fun _ w' ⟨v, he, Fs, hR, hc, hm, ho, hD⟩ => ⟨v, he, Fs, ⟨hR, w', hm⟩, hc, hm, ho, hD⟩
theorem padN_0 (k : List UInt8) (x : UInt8) : (padN k x 0).map byte = reps 64 x := by simp [padN, reps]
set_option maxHeartbeats 1000000 in
theorem pad_c (w : World) (A : Option Addr) (l : List UInt8) (c : Nat) (x : UInt8) (hr : Bs w A l) (hn : l.length ≤ 1000000) (h1 : (oddF 2).p w) (h0 : (firstF 0).p w) :
    Con Tryz.prog n_hmac_pad #[.slice A l.length c, byte x] w [] fun v Fs => ∃ b junk, v = .slice (some ⟨b, 0, none⟩) 64 64 ∧ Fs = [bkF b ty_uint8 ((padL l x).map byte ++ junk)] := by
  have g := good_hmac_pad w (Un [])
  refine con_of_sx (cx := cx_hmac_pad w (Un [])) g b_hmac_pad rfl rfl (β := Va.z) [.c (.v (.slice A l.length c)), .c (.v (byte x))] 0 [] [oldF w] rfl rfl (old_sat rfl) ?_
  refine BIf.dec (fun hlt => ?_) (fun hge => ?_)
  · have hlt0 : (64 : Int) < (l.length : Int) := hlt
    intro b0
    obtain ⟨k, hks⟩ : ∃ k, Sha.sum l = k := ⟨_, rfl⟩
    have hk : keyL l = k := by unfold keyL; rw [if_pos (by omega)]; exact hks
    have hk64 : k.length ≤ 64 := by rw [← hk]; exact keyL_len
    refine call_con [] (R := fun v Fs => (∃ A' c', v = .slice A' k.length c' ∧ Fs = [browF ty_uint8 A' k c']) ∧ ∃ w', Mem w' Fs) (fun β w' hs => ((sum1_c w' (some ⟨b0, 0, none⟩) A 1 c l (row_rd (hs.get 0 rfl)) (Rd.old hr (hs.get 1 rfl)) (by omega) (Rd.old h1 (hs.get 1 rfl)) (Rd.old h0 (hs.get 1 rfl))).mono (by rintro v Fs ⟨A', c', rfl, _, _, rfl⟩; exact ⟨A', c', by rw [← hks]; rfl, by rw [hks]⟩)).real) ?_
    rintro v Fs ⟨⟨A2, c2, rfl, rfl⟩, w9, hm9⟩
    have hkr : ∀ {w'}, (browF ty_uint8 A2 k c2).p w' → Bs w' A2 k := fun h => row_rd h
    have hka : 0 < k.length → ∃ ad, A2 = some ad := fun h => Bs.addr (hkr (hm9.fact _ List.mem_cons_self)) h
    intro b1
    refine call_con [] (fun β w' hs => repeat64_c w' (some ⟨b1, 0, none⟩) 1 x (row_rd (hs.get 0 rfl))) ?_
    rintro v Fs ⟨b, junk, rfl, rfl⟩
    refine loop_rule (ι := Nat) 0 (fun i => [(17, .c (.v (.slice A2 k.length c2))), (18, .c (.v (.int .i64 (k.length : Int)))), (19, .c (.v (.int .i64 (i : Int)))), (5, .c (.v (.slice (some ⟨b, 0, none⟩) 64 64)))]) (fun _ => []) (fun i => [bkF b ty_uint8 ((padN k x i).map byte ++ junk), browF ty_uint8 A2 k c2])
      (fun i => i ≤ k.length) (fun i => k.length - i) 0 (Nat.zero_le _) (Ent.mk' ⟨rfl, rfl, rfl, rfl, trivial⟩ rfl (fun β w' hs => by rw [padN_0]; exact hs.perm [0, 2])) g ?_
    intro i hi
    refine BIf.dec (fun hlt2 => ?_) (fun hge2 => ?_)
    · have hlt0 : (i : Int) < (k.length : Int) := hlt2
      have hik : i < k.length := by omega
      obtain ⟨y, hy, _⟩ := at_lt hik
      obtain ⟨ad, hA⟩ := hka (by omega)
      refine ⟨ad, i, hA, rfl, hik, byte y, fun β w' hs => by
        have h := hkr (hs.get 1 rfl)
        rw [hA] at h
        exact Rd.cell1 h (by rw [List.getElem?_map, hy]; rfl), ?_⟩
      refine ⟨⟨b, 0, none⟩, i, rfl, rfl, by omega, byte x, fun β w' hs => by
        have h := bk_bs (hs.get 0 rfl)
        exact Rd.cell1 h (by rw [List.getElem?_map, padN_at hik (by omega)]; rfl), _, xor8 x y, ?_⟩
      refine ⟨⟨b, 0, none⟩, i, rfl, rfl, by omega, [bkF b ty_uint8 ((padN k x (i + 1)).map byte ++ junk), browF ty_uint8 A2 k c2], fun β w' hs => ?_, ?_⟩
      · have hpl := padN_len (k := k) (x := x) (i := i) (by omega) (by omega)
        obtain ⟨w2, q1, q2⟩ := hs.bkSet 0 (o := i) (us := [byte (x ^^^ y)]) rfl (by simp only [List.length_append, List.length_map, hpl, List.length_singleton]; omega) (fun u hu => by obtain rfl := List.mem_singleton.1 hu; rfl)
        have e : putAll ((padN k x i).map byte ++ junk) i [byte (x ^^^ y)] = (padN k x (i + 1)).map byte ++ junk := by
          rw [putAll, putAll, putAt_eq, List.set_append_left _ _ (by rw [List.length_map, hpl]; omega), ← padN_set hy (by omega), List.map_set]
        rw [e] at q2
        have q1' : (storeCells ((⟨b, 0, none⟩ : Addr).add (i * 1)) [byte (x ^^^ y)] 0).run (cx_hmac_pad w (Un [])).P w' = .ok () w2 := by rw [Nat.mul_one]; exact q1
        exact ⟨w2, q1', q2⟩
      · refine ⟨((i + 1 : Nat) : Int), by rw [wrap_i64 (by omega) (by omega)]; rfl, ?_⟩
        exact ⟨i + 1, hik, by omega, Ent.same ⟨rfl, rfl, rfl, rfl, trivial⟩ rfl⟩
    · have hge0 : ¬ (i : Int) < (k.length : Int) := hge2
      obtain rfl : i = k.length := by omega
      intro β w' hs
      refine hs.fin [0] ⟨b, junk, rfl, ?_⟩
      rw [padN_all]
      unfold padL
      rw [hk]
      rfl
  · have hge0 : ¬ (64 : Int) < (l.length : Int) := hge
    obtain ⟨k, hks⟩ : ∃ k, l = k := ⟨_, rfl⟩
    have hk : keyL l = k := by unfold keyL; rw [if_neg (by omega)]; exact hks
    have hk64 : k.length ≤ 64 := by rw [← hk]; exact keyL_len
    rw [hks] at hr
    have hlk : l.length = k.length := by rw [hks]
    rw [hlk]
    have hkr : ∀ {w'}, (oldF w).p w' → Bs w' A k := fun h => Rd.old hr h
    have hka : 0 < k.length → ∃ ad, A = some ad := fun h => hr.addr h
    intro b1
    refine call_con [] (fun β w' hs => repeat64_c w' (some ⟨b1, 0, none⟩) 1 x (row_rd (hs.get 0 rfl))) ?_
    rintro v Fs ⟨b, junk, rfl, rfl⟩
    refine loop_rule (ι := Nat) 0 (fun i => [(17, .c (.v (.slice A k.length c))), (18, .c (.v (.int .i64 (k.length : Int)))), (19, .c (.v (.int .i64 (i : Int)))), (5, .c (.v (.slice (some ⟨b, 0, none⟩) 64 64)))]) (fun _ => []) (fun i => [bkF b ty_uint8 ((padN k x i).map byte ++ junk), oldF w])
      (fun i => i ≤ k.length) (fun i => k.length - i) 0 (Nat.zero_le _) (Ent.mk' ⟨rfl, rfl, rfl, rfl, trivial⟩ rfl (fun β w' hs => by rw [padN_0]; exact hs.perm [0, 2])) g ?_
    intro i hi
    refine BIf.dec (fun hlt2 => ?_) (fun hge2 => ?_)
    · have hlt0 : (i : Int) < (k.length : Int) := hlt2
      have hik : i < k.length := by omega
      obtain ⟨y, hy, _⟩ := at_lt hik
      obtain ⟨ad, hA⟩ := hka (by omega)
      refine ⟨ad, i, hA, rfl, hik, byte y, fun β w' hs => by
        have h := hkr (hs.get 1 rfl)
        rw [hA] at h
        exact Rd.cell1 h (by rw [List.getElem?_map, hy]; rfl), ?_⟩
      refine ⟨⟨b, 0, none⟩, i, rfl, rfl, by omega, byte x, fun β w' hs => by
        have h := bk_bs (hs.get 0 rfl)
        exact Rd.cell1 h (by rw [List.getElem?_map, padN_at hik (by omega)]; rfl), _, xor8 x y, ?_⟩
      refine ⟨⟨b, 0, none⟩, i, rfl, rfl, by omega, [bkF b ty_uint8 ((padN k x (i + 1)).map byte ++ junk), oldF w], fun β w' hs => ?_, ?_⟩
      · have hpl := padN_len (k := k) (x := x) (i := i) (by omega) (by omega)
        obtain ⟨w2, q1, q2⟩ := hs.bkSet 0 (o := i) (us := [byte (x ^^^ y)]) rfl (by simp only [List.length_append, List.length_map, hpl, List.length_singleton]; omega) (fun u hu => by obtain rfl := List.mem_singleton.1 hu; rfl)
        have e : putAll ((padN k x i).map byte ++ junk) i [byte (x ^^^ y)] = (padN k x (i + 1)).map byte ++ junk := by
          rw [putAll, putAll, putAt_eq, List.set_append_left _ _ (by rw [List.length_map, hpl]; omega), ← padN_set hy (by omega), List.map_set]
        rw [e] at q2
        have q1' : (storeCells ((⟨b, 0, none⟩ : Addr).add (i * 1)) [byte (x ^^^ y)] 0).run (cx_hmac_pad w (Un [])).P w' = .ok () w2 := by rw [Nat.mul_one]; exact q1
        exact ⟨w2, q1', q2⟩
      · refine ⟨((i + 1 : Nat) : Int), by rw [wrap_i64 (by omega) (by omega)]; rfl, ?_⟩
        exact ⟨i + 1, hik, by omega, Ent.same ⟨rfl, rfl, rfl, rfl, trivial⟩ rfl⟩
    · have hge0 : ¬ (i : Int) < (k.length : Int) := hge2
      obtain rfl : i = k.length := by omega
      intro β w' hs
      refine hs.fin [0] ⟨b, junk, rfl, ?_⟩
      rw [padN_all]
      unfold padL
      rw [hk]
      rfl
end Go.Proofs.YthkjfepbmnabkaaGreatDoor.Sx

/- Sums that need a key: at once. -/
namespace Go.Proofs.YthkjfepbmnabkaaGreatDoor.Sx
open Go
attribute [local irreducible] Calls

theorem join2_c (w : World) (b : Nat) (A1 A2 : Option Addr) (l1 l2 : List UInt8) (c1 c2 : Nat) (hP : Rd 1 (some ⟨b, 0, none⟩) 2 [.slice A1 l1.length c1, .slice A2 l2.length c2] w) (h1 : Bs w A1 l1) (h2 : Bs w A2 l2) (hn : l1.length + l2.length ≤ 100000000) :
    Con Tryz.prog n_bytes_Join #[.slice (some ⟨b, 0, none⟩) 2 2, .slice none 0 0] w [] (readOut (l1 ++ l2)) := by
  have h := joinN_c w b 2 [.slice A1 l1.length c1, .slice A2 l2.length c2] [l1, l2] hP (fun i v l hv hl => by
    match i with
    | 0 => cases hv; cases hl; exact Bs.holds h1 c1
    | 1 => cases hv; cases hl; exact Bs.holds h2 c2
    | n + 2 => simp at hv) (Nat.le_refl 2) (Nat.le_refl 2) (by show 2 ≤ 1000; decide) (by simp; omega)
  have e : [l1, l2].flatten = l1 ++ l2 := by simp
  rw [e] at h
  exact h
/-- One part, to be read. -/
theorem join1R_c (w : World) (P A : Option Addr) (cP c : Nat) (l : List UInt8) (hP : Rd 1 P 1 [.slice A l.length c] w) (hr : Bs w A l) (hn : l.length ≤ 100000000) :
    Con Tryz.prog n_bytes_Join #[.slice P 1 cP, .slice none 0 0] w [] (readOut l) := by
  refine Calls.mono (join1_c w P A cP c l hP hr (by omega)) ?_
  rintro e w' ⟨v, rfl, hf⟩
  refine ⟨v, rfl, hf.recast ?_⟩
  rintro Fs ⟨A', c', rfl, q1, q2, rfl⟩ hp
  exact ⟨[rdoF 1 A' l.length (l.map byte)], ⟨A', c', rfl, q1, q2, rfl⟩, .cons ⟨rfl, fun h => row_rd h, browRoD (hp _ List.mem_cons_self)⟩ .nil⟩
/-- A sum with a key. -/
theorem hsum_c (w : World) (A P : Option Addr) (key text : List UInt8) (c nP cP : Nat) (hr : Bs w A key) (hk : key.length ≤ 1000000) (ht : text.length ≤ 1000000) (hj : ∀ w', (oldF w).p w' → Con Tryz.prog n_bytes_Join #[.slice P nP cP, .slice none 0 0] w' [] (readOut text)) (h1 : (oddF 2).p w) (h0 : (firstF 0).p w) :
    Con Tryz.prog n_hmac_Sum #[.slice A key.length c, .slice P nP cP] w [] fun v Fs => ∃ A' c', v = .slice A' 32 c' ∧ 32 ≤ c' ∧ c' ≤ maxLen ∧ Fs = [browF ty_uint8 A' (hmL key text) c'] := by
  have g := good_hmac_Sum w (Un [])
  refine con_of_sx (cx := cx_hmac_Sum w (Un [])) g b_hmac_Sum rfl rfl (β := Va.z) [.c (.v (.slice A key.length c)), .c (.v (.slice P nP cP))] 0 [] [oldF w] rfl rfl (old_sat rfl) ?_
  refine call_con [] (fun β w' hs => pad_c w' A key c 0x36 (Rd.old hr (hs.get 0 rfl)) hk (Rd.old h1 (hs.get 0 rfl)) (Rd.old h0 (hs.get 0 rfl))) ?_
  rintro v Fs ⟨p1, j1, rfl, rfl⟩
  refine call_con [] (fun β w' hs => hj w' (hs.get 1 rfl)) ?_
  rintro v Fs ⟨A1, c1, rfl, _, _, rfl⟩
  intro b1
  have l64 : ∀ x, (padL key x).length = 64 := padL_len key
  refine call_con [] (fun β w' hs => sumJ_c w' (some ⟨b1, 0, none⟩) 2 2 (padL key 0x36 ++ text) (fun w2 ho => by
    have q := join2_c w2 b1 (some ⟨p1, 0, none⟩) A1 (padL key 0x36) text 64 c1 (by rw [l64]; exact Rd.old (row_rd (hs.get 0 rfl)) ho) (Rd.old (bk_bs (hs.get 2 rfl)) ho) (Rd.old (rdo_rd (hs.get 1 rfl)) ho) (by rw [l64]; omega)
    exact q) (by rw [List.length_append, l64]; omega) (Rd.old h1 (hs.get 3 rfl)) (Rd.old h0 (hs.get 3 rfl))) ?_
  rintro v Fs ⟨A2, c2, rfl, _, _, rfl⟩
  refine call_con [] (fun β w' hs => pad_c w' A key c 0x5c (Rd.old hr (hs.get 4 rfl)) hk (Rd.old h1 (hs.get 4 rfl)) (Rd.old h0 (hs.get 4 rfl))) ?_
  rintro v Fs ⟨p2, j2, rfl, rfl⟩
  intro b2
  have ls : (Sha.sum (padL key 0x36 ++ text)).length = 32 := sum_len _
  refine call_con [] (fun β w' hs => sumJ_c w' (some ⟨b2, 0, none⟩) 2 2 (padL key 0x5c ++ Sha.sum (padL key 0x36 ++ text)) (fun w2 ho => by
    have q := join2_c w2 b2 (some ⟨p2, 0, none⟩) A2 (padL key 0x5c) (Sha.sum (padL key 0x36 ++ text)) 64 c2 (by rw [l64, ls]; exact Rd.old (row_rd (hs.get 0 rfl)) ho) (Rd.old (bk_bs (hs.get 1 rfl)) ho) (Rd.old (row_rd (hs.get 2 rfl)) ho) (by rw [l64, ls]; decide)
    exact q) (by rw [List.length_append, l64, ls]; decide) (Rd.old h1 (hs.get 6 rfl)) (Rd.old h0 (hs.get 6 rfl))) ?_
  rintro v Fs ⟨A3, c3, rfl, h5, h6, rfl⟩
  intro β w' hs
  exact hs.fin [0] ⟨A3, c3, rfl, h5, h6, rfl⟩
end Go.Proofs.YthkjfepbmnabkaaGreatDoor.Sx

/- A term's print. -/
namespace Go.Proofs.YthkjfepbmnabkaaGreatDoor.Sx
open Go
attribute [local irreducible] Calls

/-- Where a term's parts lie. -/
structure TA where
  k : Option Addr
  t : Option Addr
  l : Option Addr
  m : Option Addr
  kc : Nat
  tc : Nat
  lc : Nat
  mc : Nat
def ints (l : List Nat) : List Value := l.map fun (n : Nat) => Value.int .i64 (n : Int)
def termV (t : Bx.Term) (a : TA) : List Value := [.int .i64 t.kind, .slice a.k t.key.length a.kc, .slice a.t t.text.length a.tc, .int .i64 t.rounds, .slice a.l t.list.length a.lc, .slice a.m t.mask.length a.mc]
def termS (t : Bx.Term) (a : TA) : List SL := [.v (.int .i64 t.kind), .v (.slice a.k t.key.length a.kc), .v (.slice a.t t.text.length a.tc), .v (.int .i64 t.rounds), .v (.slice a.l t.list.length a.lc), .v (.slice a.m t.mask.length a.mc)]
/-- A term's parts can be read. -/
structure TRd (t : Bx.Term) (a : TA) (w : World) : Prop where
  hk : Bs w a.k t.key
  ht : Bs w a.t t.text
  hl : Rd 1 a.l t.list.length (ints t.list) w
  hm : Bs w a.m t.mask
theorem TRd.old {t : Bx.Term} {a : TA} {W w : World} (h : TRd t a W) (ho : (oldF W).p w) : TRd t a w := ⟨Rd.old h.hk ho, Rd.old h.ht ho, Rd.old h.hl ho, Rd.old h.hm ho⟩
/-- A term that isn't too great. -/
structure TSz (t : Bx.Term) : Prop where
  kind : t.kind < 1000
  rounds : t.rounds < 1000
  key : t.key.length ≤ 1000000
  text : t.text.length ≤ 1000000
  list : t.list.length ≤ 10000
  nums : ∀ n ∈ t.list, n < 1000000
  mask : t.mask.length ≤ 1000000

theorem vints_len : ∀ (l : List Nat), (∀ n ∈ l, n < 4611686018427387904) → (l.flatMap Bx.vint).length ≤ 9 * l.length
  | [], _ => by simp
  | a :: r, h => by
    have h1 := vint_nine (h a List.mem_cons_self)
    have h2 := vints_len r (fun n hn => h n (List.mem_cons_of_mem _ hn))
    rw [List.flatMap_cons, List.length_append, List.length_cons]
    omega
theorem flat_take {l : List Nat} {k x : Nat} (h : l[k]? = some x) : (l.take (k + 1)).flatMap Bx.vint = (l.take k).flatMap Bx.vint ++ Bx.vint x := by
  obtain ⟨hk, rfl⟩ := List.getElem?_eq_some_iff.1 h
  rw [List.take_succ_eq_append_getElem hk, List.flatMap_append, List.flatMap_singleton]
theorem ints_at {l : List Nat} {k x : Nat} (h : l[k]? = some x) : (ints l)[k]? = some (.int .i64 (x : Int)) := by
  simp [ints, h]
structure PrS where
  k : Nat
  A : Option Addr
  c : Nat
def heads5 (t : Bx.Term) : List Nat := [t.kind, t.rounds, t.key.length, t.text.length, t.list.length]
theorem print_c (w : World) (t : Bx.Term) (a : TA) (hr : TRd t a w) (hs : TSz t) : Pu Tryz.prog n_box_Term_print #[.agg (termV t a).toArray] w (.string ⟨(Bx.print t).toArray⟩) := by
  have g := good_box_Term_print w (Un [])
  have h5 : ∀ n ∈ heads5 t, n < 4611686018427387904 := by
    have := hs.kind; have := hs.rounds; have := hs.key; have := hs.text; have := hs.list
    intro n hn
    simp only [heads5, List.mem_cons, List.not_mem_nil, or_false] at hn
    rcases hn with rfl | rfl | rfl | rfl | rfl <;> omega
  have h6 : ∀ n ∈ t.list, n < 4611686018427387904 := fun n hn => by have := hs.nums n hn; omega
  refine con_of_sx (cx := cx_box_Term_print w (Un [])) g b_box_Term_print rfl rfl (β := Va.z) [.agg (termS t a)] 0 [] [oldF w] rfl rfl (old_sat rfl) ?_
  intro b5
  refine reify_rule g 1 (fun _ => [.slice none 0 0]) rfl rfl (fun _ => rfl) (fun b => ?_)
  refine loop_rule (ι := PrS) 2 (fun i => [(23, .c (.v (.slice (some ⟨b5, 0, none⟩) 5 5))), (24, .c (.v (.int .i64 5))), (25, .c (.v (.int .i64 i.k))), (1, .c (.p 0 0)), (3, .c (.v (.pointer (some ⟨b, 0, none⟩)))), (4, .fn (.func n_box_Term_print_1) [] [.v (.pointer (some ⟨b, 0, none⟩))])]) (fun _ => [⟨0, ty_box_Term, termS t a⟩])
    (fun i => varF b i.A (((heads5 t).take i.k).flatMap Bx.vint) i.c ++ [rowF ty_int 1 (.slice (some ⟨b5, 0, none⟩) 5 5) 5 (ints (heads5 t)), oldF w])
    (fun i => i.k ≤ 5) (fun i => 5 - i.k) ⟨0, none, 0⟩ (Nat.zero_le _) (Ent.mk' ⟨rfl, rfl, rfl, rfl, rfl, rfl, trivial⟩ rfl ?_) g ?_
  · intro β w' hs
    exact (hs.nilRow ty_uint8 1).perm [1, 0, 2, 3]
  rintro ⟨k, A1, c1⟩ hk
  simp only at hk
  have hb1 : (((heads5 t).take k).flatMap Bx.vint).length ≤ 45 := by
    have := vints_len ((heads5 t).take k) (fun n hn => h5 n (List.take_subset _ _ hn))
    have h7 : ((heads5 t).take k).length ≤ 5 := by rw [List.length_take]; show min k 5 ≤ 5; omega
    omega
  refine BIf.dec (fun hlt => ?_) (fun hge => ?_)
  · have hlt0 : (k : Int) < 5 := hlt
    have hkl : k < (heads5 t).length := by show k < 5; omega
    obtain ⟨x, hx, hxm⟩ := at_lt hkl
    have hu := ints_at hx
    refine ⟨⟨b5, 0, none⟩, k, rfl, rfl, by omega, _, fun β w' hs => Rd.cell1 (row_rd (hs.get 2 rfl)) hu, ?_⟩
    refine call_con [0, 1] (fun β w' hs => long7_c w' b x A1 (((heads5 t).take k).flatMap Bx.vint) c1 (h5 _ hxm) (by omega) (hs.mem.take (js := [0, 1]) rfl)) ?_
    rintro v Fs ⟨rfl, A2, c2, rfl⟩
    refine ⟨((k + 1 : Nat) : Int), by rw [wrap_i64 (by omega) (by omega)]; rfl, ?_⟩
    refine ⟨⟨k + 1, A2, c2⟩, by show k + 1 ≤ 5; omega, by show 5 - (k + 1) < 5 - k; omega, Ent.mk' ⟨rfl, rfl, rfl, rfl, rfl, rfl, trivial⟩ rfl ?_⟩
    intro β w' hs
    show Sat _ _ _ _ (varF b A2 (((heads5 t).take (k + 1)).flatMap Bx.vint) c2 ++ _) _
    rw [flat_take hx]
    exact hs
  have hge0 : ¬ (k : Int) < 5 := hge
  have hke : k = 5 := by omega
  subst hke
  have hpre : ((heads5 t).take 5).flatMap Bx.vint = (heads5 t).flatMap Bx.vint := rfl
  rw [hpre] at hb1
  refine loop_rule (ι := PrS) 2 (fun i => [(34, .c (.v (.slice a.l t.list.length a.lc))), (35, .c (.v (.int .i64 t.list.length))), (36, .c (.v (.int .i64 i.k))), (1, .c (.p 0 0)), (3, .c (.v (.pointer (some ⟨b, 0, none⟩)))), (4, .fn (.func n_box_Term_print_1) [] [.v (.pointer (some ⟨b, 0, none⟩))])]) (fun _ => [⟨0, ty_box_Term, termS t a⟩])
    (fun i => varF b i.A ((heads5 t).flatMap Bx.vint ++ (t.list.take i.k).flatMap Bx.vint) i.c ++ [oldF w])
    (fun i => i.k ≤ t.list.length) (fun i => t.list.length - i.k) ⟨0, A1, c1⟩ (Nat.zero_le _) (Ent.mk' ⟨rfl, rfl, rfl, rfl, rfl, rfl, trivial⟩ rfl ?_) g ?_
  · intro β w' hs
    have e : (heads5 t).flatMap Bx.vint ++ (t.list.take 0).flatMap Bx.vint = (heads5 t).flatMap Bx.vint := by simp
    show Sat _ _ _ _ (varF b A1 ((heads5 t).flatMap Bx.vint ++ (t.list.take 0).flatMap Bx.vint) c1 ++ _) _
    rw [e]
    exact hs.perm [0, 1, 3]
  rintro ⟨k, A2, c2⟩ hk
  simp only at hk
  have hll := hs.list
  have hb2 : ((heads5 t).flatMap Bx.vint ++ (t.list.take k).flatMap Bx.vint).length ≤ 100000 := by
    have := vints_len (t.list.take k) (fun n hn => h6 n (List.take_subset _ _ hn))
    have h7 : (t.list.take k).length ≤ t.list.length := by simp; omega
    rw [List.length_append]
    omega
  refine BIf.dec (fun hlt => ?_) (fun hge => ?_)
  · have hlt0 : (k : Int) < t.list.length := hlt
    have hkl : k < t.list.length := by omega
    obtain ⟨x, hx, hxm⟩ := at_lt hkl
    have hu := ints_at hx
    obtain ⟨ad, hA, hc⟩ := hr.hl.2 (by omega)
    have hr2 := hr.hl
    rw [hA] at hr2
    refine ⟨ad, k, hA, rfl, hkl, _, fun β w' hs => Rd.cell1 (Rd.old hr2 (hs.get 2 rfl)) hu, ?_⟩
    refine call_con [0, 1] (fun β w' hs => long7_c w' b x A2 ((heads5 t).flatMap Bx.vint ++ (t.list.take k).flatMap Bx.vint) c2 (h6 _ hxm) (by omega) (hs.mem.take (js := [0, 1]) rfl)) ?_
    rintro v Fs ⟨rfl, A3, c3, rfl⟩
    refine ⟨((k + 1 : Nat) : Int), by rw [wrap_i64 (by omega) (by omega)]; rfl, ?_⟩
    refine ⟨⟨k + 1, A3, c3⟩, by show k + 1 ≤ t.list.length; omega, by show t.list.length - (k + 1) < t.list.length - k; omega, Ent.mk' ⟨rfl, rfl, rfl, rfl, rfl, rfl, trivial⟩ rfl ?_⟩
    intro β w' hs
    show Sat _ _ _ _ (varF b A3 ((heads5 t).flatMap Bx.vint ++ (t.list.take (k + 1)).flatMap Bx.vint) c3 ++ _) _
    rw [flat_take hx, ← List.append_assoc]
    exact hs
  have hge0 : ¬ (k : Int) < t.list.length := hge
  have hke : k = t.list.length := by omega
  subst hke
  have hpre2 : (heads5 t).flatMap Bx.vint ++ (t.list.take t.list.length).flatMap Bx.vint = (heads5 t).flatMap Bx.vint ++ t.list.flatMap Bx.vint := by rw [List.take_length]
  rw [hpre2] at hb2
  rw [hpre2]
  generalize hq : (heads5 t).flatMap Bx.vint ++ t.list.flatMap Bx.vint = q at hb2 ⊢
  have hcell : ∀ (w' : World) (A : Option Addr) (l : List UInt8) (c : Nat), (bkF b ty_sl_uint8 [.slice A l.length c]).p w' → w'.cell? ⟨b, 0, none⟩ = some (.slice A l.length c) := fun w' A l c h => by
    have hb : w'.heap[b]? = some (.cells #[.slice A l.length c] ty_sl_uint8 (0, 0)) := h
    rw [cell_of_row w' b 0 _ _ _ hb]; rfl
  refine ⟨.slice A2 q.length c2, fun β w' hs => hcell _ _ _ _ (hs.get 0 rfl), ?_⟩
  intro b6
  have hkey := hs.key
  have htext := hs.text
  have hmask := hs.mask
  have hfl : [q, t.key, t.text, t.mask].flatten = Bx.print t := by
    rw [Bx.print, ← hq]
    simp [heads5]
  refine call_con [] (R := readOut (Bx.print t)) (fun β w' hs => by
    have h := joinN_c w' b6 4 [.slice A2 q.length c2, .slice a.k t.key.length a.kc, .slice a.t t.text.length a.tc, .slice a.m t.mask.length a.mc] [q, t.key, t.text, t.mask] (row_rd (hs.get 0 rfl)) (fun i v l hv hl => by
      match i, hv, hl with
      | 0, hv, hl => obtain rfl := Option.some.inj hv; obtain rfl := Option.some.inj hl; exact Bs.holds (row_rd (hs.get 2 rfl)) _
      | 1, hv, hl => obtain rfl := Option.some.inj hv; obtain rfl := Option.some.inj hl; exact Bs.holds (Rd.old hr.hk (hs.get 3 rfl)) _
      | 2, hv, hl => obtain rfl := Option.some.inj hv; obtain rfl := Option.some.inj hl; exact Bs.holds (Rd.old hr.ht (hs.get 3 rfl)) _
      | 3, hv, hl => obtain rfl := Option.some.inj hv; obtain rfl := Option.some.inj hl; exact Bs.holds (Rd.old hr.hm (hs.get 3 rfl)) _
      | n + 4, hv, hl => cases hv) (by show 2 ≤ 4; decide) (Nat.le_refl 4) (by show 4 ≤ 1000; decide) (by simp; omega)
    rw [hfl] at h
    exact h) ?_
  rintro v Fs ⟨A, c, rfl, h1, h2, rfl⟩
  refine ⟨Bx.print t, fun β w hs => hs.get 0 rfl, ?_⟩
  intro β w' hs
  exact hs.fin [] ⟨rfl, rfl⟩
end Go.Proofs.YthkjfepbmnabkaaGreatDoor.Sx

/- Lists of numbers: copied, looked through; a term of its own. -/
namespace Go.Proofs.YthkjfepbmnabkaaGreatDoor.Sx
open Go
attribute [local irreducible] Calls

theorem ints_one (l : List Nat) : ∀ u ∈ ints l, u.oneCell' = true := by
  intro u hu
  obtain ⟨x, _, rfl⟩ := List.mem_map.1 hu
  rfl
abbrev irowF (A : Option Addr) (l : List Nat) (c : Nat) : Fact := rowF ty_int 1 (.slice A l.length c) l.length (ints l)
theorem cloneI_c (w : World) (A : Option Addr) (l : List Nat) (c : Nat) (hr : Rd 1 A l.length (ints l) w) (hn : l.length ≤ 10000000000000) :
    Con Tryz.prog 139 #[.slice A l.length c] w [] fun v Fs => ∃ A' c', v = .slice A' l.length c' ∧ l.length ≤ c' ∧ c' ≤ maxLen ∧ Fs = [irowF A' l c'] := by
  refine con_of_sx (cx := cx_slices_Clone_int_int w (Un [])) (good_slices_Clone_int_int w (Un [])) b_slices_Clone_int_int rfl rfl (β := Va.z) [.c (.v (.slice A l.length c))] 0 [] [rdF 1 A l.length (ints l)] rfl rfl ((Sat.start rfl).rd (fun _ h => by cases h) hr) ?_
  refine BIf.mk (fun h => ?_) (fun h => ?_)
  · intro β w' hs
    have hA : A = none := by simpa using h
    subst hA
    have hl : l = [] := by
      cases l with
      | nil => rfl
      | cons x r => obtain ⟨ad, q, _⟩ := hr.2 (by simp); cases q
    subst hl
    exact (hs.nilRow ty_int 1).fin [0] ⟨none, 0, rfl, Nat.le_refl _, Nat.zero_le _, rfl⟩
  intro b
  refine ⟨0, 0, l.length, [], ints l, _, rfl, fun β w hs => hs.get 1 rfl, ints_one l, Nat.zero_add _, rfl, by rw [maxLen_eq]; omega, by show l.length * 8 ≤ _; omega, ?_⟩
  intro A' c' h1 h2 h3 β w' hs
  exact hs.fin [0] ⟨A', c', rfl, h1, h2, rfl⟩
theorem indexI_c (w : World) (A : Option Addr) (l : List Nat) (c x : Nat) (hr : Rd 1 A l.length (ints l) w) (hn : l.length ≤ 10000000000000) :
    Con Tryz.prog 186 #[.slice A l.length c, .int .i64 x] w [] fun v Fs => (∃ r : Int, v = .int .i64 r ∧ (0 ≤ r ↔ x ∈ l)) ∧ Fs = [] := by
  have g := good_slices_Index_int_int w (Un [])
  refine con_of_sx (cx := cx_slices_Index_int_int w (Un [])) g b_slices_Index_int_int rfl rfl (β := Va.z) [.c (.v (.slice A l.length c)), .c (.v (.int .i64 x))] 0 [] [rdF 1 A l.length (ints l)] rfl rfl ((Sat.start rfl).rd (fun _ h => by cases h) hr) ?_
  refine loop_rule 0 (fun k : Nat => [(0, .c (.v (.slice A l.length c))), (1, .c (.v (.int .i64 x))), (7, .c (.v (.int .i64 l.length))), (8, .c (.v (.int .i64 k)))]) (fun _ => []) (fun _ => [rdF 1 A l.length (ints l)])
    (fun k => k ≤ l.length ∧ x ∉ l.take k) (fun k => l.length - k) 0 ⟨Nat.zero_le _, by simp⟩ (Ent.same ⟨rfl, rfl, rfl, rfl, trivial⟩ rfl) g ?_
  rintro k ⟨hk, hx⟩
  refine BIf.dec (fun hlt => ?_) (fun hge => ?_)
  · have hkl : k < l.length := by omega
    obtain ⟨y, hy, hym⟩ := at_lt hkl
    obtain ⟨ad, rfl, _⟩ := hr.2 (by omega)
    refine ⟨ad, k, rfl, rfl, hkl, _, fun β w' hs => Rd.cell1 (hs.get 0 rfl) (ints_at hy), ?_⟩
    refine BIf.dec (fun he => ?_) (fun hne => ?_)
    · intro β w' hs
      refine hs.fin [] ⟨⟨(k : Int), rfl, ?_⟩, rfl⟩
      have hxy : x = y := by omega
      subst hxy
      exact ⟨fun _ => hym, fun _ => by omega⟩
    · refine ⟨((k + 1 : Nat) : Int), by rw [wrap_i64 (by omega) (by omega)]; rfl, ?_⟩
      refine ⟨k + 1, ⟨hkl, ?_⟩, by omega, Ent.same ⟨rfl, rfl, rfl, rfl, trivial⟩ rfl⟩
      rw [List.take_add_one, hy]
      intro q
      rcases List.mem_append.1 q with q | q
      · exact hx q
      · have hq : x = y := by simpa using q
        exact hne (by rw [hq])
  · intro β w' hs
    refine hs.fin [] ⟨⟨-1, rfl, ?_⟩, rfl⟩
    have hke : k = l.length := by omega
    rw [hke, List.take_length] at hx
    exact ⟨fun h => by omega, fun h => (hx h).elim⟩
open Classical in
theorem containsI_c (w : World) (A : Option Addr) (l : List Nat) (c x : Nat) (hr : Rd 1 A l.length (ints l) w) (hn : l.length ≤ 10000000000000) :
    Pu Tryz.prog 141 #[.slice A l.length c, .int .i64 x] w (.bool (decide (x ∈ l))) := by
  have g := good_slices_Contains_int_int w (Un [])
  refine con_of_sx (cx := cx_slices_Contains_int_int w (Un [])) g b_slices_Contains_int_int rfl rfl (β := Va.z) [.c (.v (.slice A l.length c)), .c (.v (.int .i64 x))] 0 [] [rdF 1 A l.length (ints l)] rfl rfl ((Sat.start rfl).rd (fun _ h => by cases h) hr) ?_
  refine call_con [] (fun β w' hs => indexI_c w' A l c x (hs.get 0 rfl) hn) ?_
  rintro v Fs ⟨⟨r, rfl, hri⟩, rfl⟩
  intro β w' hs
  refine hs.fin [] ⟨?_, rfl⟩
  show Value.bool (decide (0 ≤ r)) = _
  congr 1
  exact decide_eq_decide.2 hri
/-- A copy's parts. -/
def copyFs (t : Bx.Term) (a : TA) : List Fact := [browF ty_uint8 a.m t.mask a.mc, irowF a.l t.list a.lc, browF ty_uint8 a.t t.text a.tc, browF ty_uint8 a.k t.key a.kc]
theorem copyOf_c (w : World) (t : Bx.Term) (a : TA) (hr : TRd t a w) (hs : TSz t) :
    Con Tryz.prog n_box_copyOf #[.agg (termV t a).toArray] w [] fun v Fs => ∃ a', v = .agg (termV t a').toArray ∧ Fs = copyFs t a' := by
  have g := good_box_copyOf w (Un [])
  have hkey := hs.key
  have htext := hs.text
  have hmask := hs.mask
  have hlist := hs.list
  refine con_of_sx (cx := cx_box_copyOf w (Un [])) g b_box_copyOf rfl rfl (β := Va.z) [.agg (termS t a)] 0 [] [oldF w] rfl rfl (old_sat rfl) ?_
  have hS : ∀ {n : Nat} {F : List Fact}, Sub (cx_box_copyOf w (Un [])) n [⟨1, ty_box_Term, ti84.zero.map SL.v⟩, ⟨0, ty_box_Term, termS t a⟩] F [⟨0, ty_box_Term, termS t a⟩] [] := fun {n F} => Sub.of (List.sublist_cons_self _ _) (List.nil_sublist _)
  refine draw_rule g p_box_copyOf_1 (by kernel_rfl) [⟨0, ty_box_Term, termS t a⟩] [] hS ?_
  refine call_con [] (fun β w' hs => clone_c w' a.k t.key a.kc (Rd.old hr.hk (hs.get 0 rfl)) (by omega)) ?_
  rintro v Fs ⟨A1, c1, rfl, _, _, rfl⟩
  refine ⟨hS, ?_⟩
  refine call_con [] (fun β w' hs => clone_c w' a.t t.text a.tc (Rd.old hr.ht (hs.get 1 rfl)) (by omega)) ?_
  rintro v Fs ⟨A2, c2, rfl, _, _, rfl⟩
  refine ⟨hS, ?_⟩
  refine call_con [] (fun β w' hs => cloneI_c w' a.l t.list a.lc (Rd.old hr.hl (hs.get 2 rfl)) (by omega)) ?_
  rintro v Fs ⟨A3, c3, rfl, _, _, rfl⟩
  refine ⟨hS, ?_⟩
  refine call_con [] (fun β w' hs => clone_c w' a.m t.mask a.mc (Rd.old hr.hm (hs.get 3 rfl)) (by omega)) ?_
  rintro v Fs ⟨A4, c4, rfl, _, _, rfl⟩
  refine ⟨hS, ?_⟩
  intro β w' hs
  exact (hs.keepB (List.nil_sublist _)).fin [0, 1, 2, 3] ⟨⟨A1, A2, A3, A4, c1, c2, c3, c4⟩, rfl, rfl⟩ rfl rfl rfl ⟨rfl, rfl, rfl, rfl, trivial⟩
end Go.Proofs.YthkjfepbmnabkaaGreatDoor.Sx

/- slices.Sort at numbers, as a contract. -/
namespace Go.Proofs.YthkjfepbmnabkaaGreatDoor.Sx
open Go
attribute [local irreducible] Calls

def sortN (l : List Nat) : List Nat := l.mergeSort (fun x y => decide (x ≤ y))
theorem sortN_len (l : List Nat) : (sortN l).length = l.length := by simp [sortN]
theorem sortN_map (l : List Nat) : (l.map Int.ofNat).mergeSort (fun x y => decide (x ≤ y)) = (sortN l).map Int.ofNat := by
  refine (List.map_mergeSort fun a _ b _ => ?_).symm
  exact decide_eq_decide.2 (Int.ofNat_le).symm
theorem insI_c (w : World) : Con Tryz.prog n_slices_insertionSortOrdered_int #[.slice none 0 0, .int .i64 0, .int .i64 0] w [] fun v Fs => v = .tuple #[] ∧ Fs = [] := by
  refine con_of_sx (cx := cx_slices_insertionSortOrdered_int w (Un [])) (good_slices_insertionSortOrdered_int w (Un [])) b_slices_insertionSortOrdered_int rfl rfl (β := Va.z) [.c (.v (.slice none 0 0)), .c (.v (.int .i64 0)), .c (.v (.int .i64 0))] 0 [] [] rfl rfl (Sat.start rfl) ?_
  have g := good_slices_insertionSortOrdered_int w (Un [])
  refine ⟨1, rfl, ?_⟩
  refine loop_rule 0 (fun _ : Unit => [(0, .c (.v (.slice none 0 0))), (1, .c (.v (.int .i64 0))), (2, .c (.v (.int .i64 0))), (6, .c (.v (.int .i64 1)))]) (fun _ => []) (fun _ => []) (fun _ => True) (fun _ => 0) () trivial (Ent.same ⟨rfl, rfl, rfl, rfl, trivial⟩ rfl) g ?_
  rintro ⟨⟩ -
  intro β w' hs
  exact hs.fin [] ⟨rfl, rfl⟩
theorem pdqI_c (w : World) (m : Int) : Con Tryz.prog n_slices_pdqsortOrdered_int #[.slice none 0 0, .int .i64 0, .int .i64 0, .int .i64 m] w [] fun v Fs => v = .tuple #[] ∧ Fs = [] := by
  refine con_of_sx (cx := cx_slices_pdqsortOrdered_int w (Un [])) (good_slices_pdqsortOrdered_int w (Un [])) b_slices_pdqsortOrdered_int rfl rfl (β := Va.z) [.c (.v (.slice none 0 0)), .c (.v (.int .i64 0)), .c (.v (.int .i64 0)), .c (.v (.int .i64 m))] 0 [] [] rfl rfl (Sat.start rfl) ?_
  have g := good_slices_pdqsortOrdered_int w (Un [])
  refine loop_rule 0 (fun _ : Unit => [(0, .c (.v (.slice none 0 0))), (1, .c (.v (.int .i64 0))), (2, .c (.v (.int .i64 0)))]) (fun _ => []) (fun _ => []) (fun _ => True) (fun _ => 0) () trivial (Ent.same ⟨rfl, rfl, rfl, trivial⟩ rfl) g ?_
  rintro ⟨⟩ -
  refine ⟨0, rfl, ?_⟩
  refine call_con [] (fun β w' hs => insI_c w') ?_
  rintro v Fs ⟨rfl, rfl⟩
  intro β w' hs
  exact hs.fin [] ⟨rfl, rfl⟩
theorem bits0_c (w : World) : Pu Tryz.prog n_math_bits_Len #[.int .u64 0] w (.int .i64 0) := by
  refine pu_of (Calls.mono (Tryz.bits_Len 0 w (by decide) (by decide)) ?_)
  rintro e w' ⟨rfl, rfl⟩
  exact ⟨_, rfl, rfl, Chg.refl _ _⟩
theorem sortNil_c (w : World) : Con Tryz.prog n_slices_Sort_int_int #[.slice none 0 0] w [] fun v Fs => v = .tuple #[] ∧ Fs = [] := by
  refine con_of_sx (cx := cx_slices_Sort_int_int w (Un [])) (good_slices_Sort_int_int w (Un [])) b_slices_Sort_int_int rfl rfl (β := Va.z) [.c (.v (.slice none 0 0))] 0 [] [] rfl rfl (Sat.start rfl) ?_
  refine ⟨0, rfl, ?_⟩
  refine call_pu (fun β w' hs => bits0_c w') ?_
  refine call_con [] (fun β w' hs => pdqI_c w' 0) ?_
  rintro v Fs ⟨rfl, rfl⟩
  intro β w' hs
  exact hs.fin [] ⟨rfl, rfl⟩
theorem sort_c (w : World) (A : Option Addr) (l : List Nat) (c : Nat) (hm : Mem w [irowF A l c]) (hn : l.length ≤ 10000000000000) :
    Con Tryz.prog n_slices_Sort_int_int #[.slice A l.length c] w [irowF A l c] fun v Fs => v = .tuple #[] ∧ Fs = [irowF A (sortN l) c] := by
  have hp : w.ownsRow 0 ty_int 1 (.slice A l.length c) l.length (ints l) := hm.fact _ (List.mem_singleton.2 rfl)
  have hi : ints l = (l.map Int.ofNat).map (Value.int .i64) := by simp [ints]
  rcases hp.2 with ⟨hv, h0⟩ | ⟨g, cap, cur, hv, hbase, hb, h1, h2, h3, h4⟩
  · obtain rfl : l = [] := List.length_eq_zero_iff.1 h0
    cases hv
    refine Calls.mono (sortNil_c w) ?_
    rintro e w' ⟨v, rfl, Fs, ⟨rfl, rfl⟩, hc, _⟩
    rw [Un.nil] at hc
    refine ⟨_, rfl, [irowF none [] 0], ⟨rfl, by simp [sortN]⟩, ⟨hc.os, hc.tape, hc.output, hc.size, fun k hk _ => hc.same k hk (fun h => h)⟩, ⟨fun f hf => ?_, fun f hf k hk => ?_, List.pairwise_singleton _ _⟩, ⟨rfl, trivial⟩, fun f hf k hk => ?_⟩
    · obtain rfl := List.mem_singleton.1 hf; exact World.ownsRow_nil _ _ _ _
    · obtain rfl := List.mem_singleton.1 hf; cases hk
    · obtain rfl := List.mem_singleton.1 hf; cases hk
  · cases hv
    have hlt : g < w.heap.size := (Array.getElem?_eq_some_iff.1 hb).1
    refine Calls.mono (show Calls Tryz.prog _ #[.slice (some ⟨g, 0, none⟩) l.length c] w _ from by
      have := Tryz.slices_Sort_int g 0 c (l.map Int.ofNat) w (holds_of_blockI hb (by rw [← hi, List.length_map]; simpa using h4)) hlt (by rw [List.length_map]; omega)
      rw [List.length_map] at this
      exact this) ?_
    rintro e w' ⟨rfl, n, os, rfl⟩
    rw [sortN_map]
    have hg := grownBy_sortedI (w := w) (g := g) (n := n) (os := os) ((sortN l).map Int.ofNat).toArray
    have ho := ownsRow_sortedI (w := w) (base := 0) (n := n) (os := os) (ss := l.map Int.ofNat) (ts := (sortN l).map Int.ofNat) (by simp [sortN_len]) hbase hb (by simpa using h1) h2 h3
    refine ⟨_, rfl, [irowF (some ⟨g, 0, none⟩) (sortN l) c], ⟨rfl, rfl⟩, ?_, ⟨fun f hf => ?_, fun f hf k hk => ?_, List.pairwise_singleton _ _⟩, ⟨rfl, trivial⟩, fun f hf k hk => ?_⟩
    · exact ⟨hg.os, hg.tape, hg.output, hg.size, fun k hk hnk => hg.block k hk (fun e => hnk ⟨_, List.mem_singleton.2 rfl, e.symm⟩)⟩
    · obtain rfl := List.mem_singleton.1 hf
      rw [List.length_map] at ho
      show World.ownsRow _ 0 ty_int 1 (.slice (some ⟨g, 0, none⟩) (sortN l).length c) (sortN l).length (ints (sortN l))
      rw [sortN_len, show ints (sortN l) = ((sortN l).map Int.ofNat).map (Value.int .i64) from by simp [ints]]
      exact ho
    · obtain rfl := List.mem_singleton.1 hf
      have : some g = some k := hk
      cases this
      exact Nat.lt_of_lt_of_le hlt hg.size
    · obtain rfl := List.mem_singleton.1 hf
      exact .inl ⟨_, List.mem_singleton.2 rfl, hk⟩
end Go.Proofs.YthkjfepbmnabkaaGreatDoor.Sx

/- A box in memory. -/
namespace Go.Proofs.YthkjfepbmnabkaaGreatDoor.Sx
open Go
attribute [local irreducible] Calls

def str (l : List UInt8) : ByteArray := ⟨l.toArray⟩
theorem str_inj {l m : List UInt8} : str l = str m ↔ l = m := by
  constructor
  · intro h
    have := congrArg (fun s : ByteArray => s.data.toList) h
    simpa [str] using this
  · rintro rfl; rfl
def numV (n : Nat) : Value := .int .i64 (n : Int)
/-- The map of prints: from number k on. -/
def mapL : List Bx.Term → Nat → ML
  | [], _ => []
  | t :: r, k => (str (Bx.print t), numV (k + 1)) :: mapL r (k + 1)
theorem mapL_look (t : Bx.Term) : ∀ (L : List Bx.Term) (k : Nat), mlook (mapL L k) (str (Bx.print t)) = (Bx.place t L).map fun i => numV (i + k + 1)
  | [], _ => rfl
  | x :: r, k => by
    simp only [mapL, mlook, Bx.place]
    by_cases h : x = t
    · subst h
      simp
    · have h' : ¬ str (Bx.print x) = str (Bx.print t) := fun q => h (Bx.print_inj (str_inj.1 q))
      rw [if_neg h', if_neg h, mapL_look t r (k + 1), Option.map_map]
      congr 1
      funext i
      simp only [Function.comp]
      rw [show i + (k + 1) + 1 = i + 1 + k + 1 by omega]
theorem mput_new : ∀ {l : ML} {s : ByteArray} {v : Value}, mlook l s = none → mput l s v = l ++ [(s, v)]
  | [], _, _, _ => rfl
  | (k, u) :: r, s, v, h => by
    simp only [mlook] at h
    split at h
    · cases h
    · rename_i hne
      simp only [mput, if_neg hne, List.cons_append]
      rw [mput_new h]
theorem mapL_snoc (t : Bx.Term) : ∀ (L : List Bx.Term) (k : Nat), mapL (L ++ [t]) k = mapL L k ++ [(str (Bx.print t), numV (L.length + k + 1))]
  | [], k => by simp [mapL]
  | x :: r, k => by
    simp only [List.cons_append, mapL, List.length_cons]
    rw [mapL_snoc t r (k + 1), show r.length + (k + 1) + 1 = r.length + 1 + k + 1 by omega]

/-- A term's parts, to be read. -/
def TD_ (t : Bx.Term) (a : TA) (k : Nat) : Prop := (bsF a.k t.key).D k ∨ (bsF a.t t.text).D k ∨ (rdF 1 a.l t.list.length (ints t.list)).D k ∨ (bsF a.m t.mask).D k
theorem TRd.st {t : Bx.Term} {a : TA} {w w' : World} (hs : ∀ k, TD_ t a k → w'.heap[k]? = w.heap[k]?) (h : TRd t a w) : TRd t a w' :=
  ⟨(bsF a.k t.key).st w w' (fun k hk => hs k (.inl hk)) h.hk, (bsF a.t t.text).st w w' (fun k hk => hs k (.inr (.inl hk))) h.ht, (rdF 1 a.l t.list.length (ints t.list)).st w w' (fun k hk => hs k (.inr (.inr (.inl hk)))) h.hl, (bsF a.m t.mask).st w w' (fun k hk => hs k (.inr (.inr (.inr hk)))) h.hm⟩
def trdF (t : Bx.Term) (a : TA) : Fact where
  own := false
  D := TD_ t a
  p := TRd t a
  st := fun w w' hs h => TRd.st hs h
/-- All terms' parts. -/
def partsF (ts : List (Bx.Term × TA)) : Fact where
  own := true
  D := fun k => ∃ p ∈ ts, TD_ p.1 p.2 k
  p := fun w => ∀ p ∈ ts, TRd p.1 p.2 w
  st := fun w w' hs h p hp => TRd.st (fun k hk => hs k ⟨p, hp, hk⟩) (h p hp)
/-- Where a box's parts lie. -/
structure Lay where
  A : Option Addr
  c : Nat
  m : Nat
  ts : List (Bx.Term × TA)
def boxCells (B : Bx.Box) (y : Lay) : List Value := [.bool B.sym, .bool B.full, .slice y.A B.L.length y.c, .map (some y.m)]
def termsV (ts : List (Bx.Term × TA)) : List Value := ts.flatMap fun p => termV p.1 p.2
def bxFs (b : Nat) (B : Bx.Box) (y : Lay) : List Fact := [bkF b ty_box_Box (boxCells B y), rowF ty_box_Term 6 (.slice y.A B.L.length y.c) B.L.length (termsV y.ts), mapF y.m (mapL B.L 0), partsF y.ts]
/-- A box, whole. -/
def bxF (b : Nat) (B : Bx.Box) (y : Lay) : Fact := sepF (bxFs b B y)
theorem box_cell {b : Nat} {B : Bx.Box} {y : Lay} {w : World} (h : (bkF b ty_box_Box (boxCells B y)).p w) {o : Nat} {v : Value} (ho : (boxCells B y)[o]? = some v) : w.cell? ⟨b, o, none⟩ = some v := by
  have hb : w.heap[b]? = some (.cells (boxCells B y).toArray ty_box_Box (0, 0)) := h
  rw [cell_of_row w b o _ _ _ hb]
  simpa using ho
theorem bk_cell {b ty : Nat} {cs : List Value} {w : World} (h : (bkF b ty cs).p w) {o : Nat} {v : Value} (ho : cs[o]? = some v) : w.cell? ⟨b, o, none⟩ = some v := by
  have hb : w.heap[b]? = some (.cells cs.toArray ty (0, 0)) := h
  rw [cell_of_row w b o _ _ _ hb]
  simpa using ho
theorem termV_one (t : Bx.Term) (a : TA) : ∀ u ∈ termV t a, u.oneCell' = true := by
  intro u hu
  simp only [termV, List.mem_cons, List.not_mem_nil, or_false] at hu
  rcases hu with rfl | rfl | rfl | rfl | rfl | rfl <;> rfl
theorem one_mem {v : Value} (h : v.oneCell' = true) : ∀ u ∈ [v], u.oneCell' = true := fun u hu => by obtain rfl := List.mem_singleton.1 hu; exact h
/-- What a term's handle is, in memory; the box behind it. -/
def tagOut (b : Nat) (B : Bx.Box) (t : Bx.Term) (v : Value) (Fs : List Fact) : Prop :=
  ∃ A c y', v = .slice A 32 c ∧ 32 ≤ c ∧ c ≤ maxLen ∧ y'.ts.map (·.1) = (B.tag t).2.L ∧ Fs = [browF ty_uint8 A (B.tag t).1 c, bxF b (B.tag t).2 y']
theorem zero_int (w : World) : (zeroValue ty_int).run Tryz.prog w = .ok (.int .i64 0) w := by kernel_rfl
theorem tag_c (w : World) (b : Nat) (B : Bx.Box) (y : Lay) (t : Bx.Term) (a : TA) (hts : y.ts.map (·.1) = B.L) (hL : B.L.length ≤ 4096) (hs : TSz t) (hm : Mem w [bxF b B y, trdF t a]) :
    Con Tryz.prog n_box_Box_tag #[.pointer (some ⟨b, 0, none⟩), .agg (termV t a).toArray] w [bxF b B y] (tagOut b B t) := by
  have g := good_box_Box_tag w (Un [bxF b B y])
  have hs0 : Sat (cx_box_Box_tag w (Un [bxF b B y])) Va.z 0 [] [bxF b B y, trdF t a] w := hm.sat0 rfl (fun f hf ho k hk => by
    simp only [List.mem_cons, List.not_mem_nil, or_false] at hf
    rcases hf with rfl | rfl
    · exact ⟨_, List.mem_singleton.2 rfl, hk⟩
    · cases ho)
  have hs1 := hs0.unsep 0 rfl
  refine con_of_sx (cx := cx_box_Box_tag w (Un [bxF b B y])) g b_box_Box_tag rfl rfl (β := Va.z) [.c (.v (.pointer (some ⟨b, 0, none⟩))), .agg (termS t a)] 0 [] (bxFs b B y ++ [trdF t a]) rfl rfl hs1 ?_
  refine call_pu (fun β w' hs' => print_c w' t a (hs'.get 4 rfl) hs) ?_
  refine ⟨.map (some y.m), fun β w' hs' => box_cell (hs'.get 0 rfl) (o := 3) rfl, ?_⟩
  have hlook := mapL_look t B.L 0
  cases hpl : Bx.place t B.L with
  | some i =>
    rw [hpl] at hlook
    refine ⟨.int .i64 0, zero_int, mapL B.L 0, some (numV (i + 1)), fun β w' hs' => hs'.get 2 rfl, hlook, ?_⟩
    refine call_con [] (fun β w' hs' => handle_c w' (i + 1)) ?_
    rintro v Fs ⟨A1, c1, rfl, q1, q2, rfl⟩
    have htag : B.tag t = (Bx.handle (i + 1), B) := by unfold Bx.Box.tag; rw [hpl]
    intro β w' hs'
    have hs2 := (hs'.keepB (List.nil_sublist _)).sep [1, 2, 3, 4] rfl ⟨rfl, rfl, rfl, rfl, trivial⟩
    exact hs2.fin [1, 0] ⟨A1, c1, y, rfl, q1, q2, by rw [htag]; exact hts, by rw [htag]; rfl⟩
  | none =>
    rw [hpl] at hlook
    refine ⟨.int .i64 0, zero_int, mapL B.L 0, none, fun β w' hs' => hs'.get 2 rfl, hlook, ?_⟩
    refine ⟨.slice y.A B.L.length y.c, fun β w' hs' => box_cell (hs'.get 0 rfl) (o := 2) rfl, ?_⟩
    refine BIf.dec (fun hge => ?_) (fun hlt => ?_)
    · have hge0 : (4096 : Int) ≤ (B.L.length : Int) := hge
      have hge1 : 4096 ≤ B.L.length := by omega
      refine ⟨_, fun β w' hs' => hs'.bkSet 0 (o := 1) (us := [.bool true]) rfl (by show 2 ≤ 4; decide) (one_mem rfl), ?_⟩
      refine ⟨32, 32, rfl, rfl, Nat.le_refl _, by decide, by decide, ?_⟩
      intro b2
      have htag : B.tag t = (Bx.noughts, { B with full := true }) := by unfold Bx.Box.tag; rw [hpl]; simp only; rw [if_pos hge1]
      intro β w' hs'
      have hs2 := (hs'.keepB (List.nil_sublist _)).sep [1, 2, 3, 4] rfl ⟨rfl, rfl, rfl, rfl, trivial⟩
      exact hs2.fin [1, 0] ⟨some ⟨b2, 0, none⟩, 32, y, rfl, Nat.le_refl _, by decide, by rw [htag]; exact hts, by rw [htag]; rfl⟩
    · have hlt0 : ¬ (4096 : Int) ≤ (B.L.length : Int) := hlt
      have hlt1 : ¬ 4096 ≤ B.L.length := by omega
      have htag : B.tag t = (Bx.handle (B.L.length + 1), { B with L := B.L ++ [t] }) := by unfold Bx.Box.tag; rw [hpl]; simp only; rw [if_neg hlt1]
      refine draw_rule g p_box_Box_tag_8 (by kernel_rfl) [⟨0, ty_box_Term, termS t a⟩] [bkF b ty_box_Box (boxCells B y)] (subPerm [0]) ?_
      refine ⟨.slice y.A B.L.length y.c, fun β w' hs' => box_cell (hs'.get 0 rfl) (o := 2) rfl, ?_⟩
      refine call_con [] (fun β w' hs' => copyOf_c w' t a (hs'.get 4 rfl) hs) ?_
      rintro v Fs ⟨a', rfl, rfl⟩
      refine ⟨subPerm [4], ?_⟩
      intro b7
      refine ⟨subPerm [5], ?_⟩
      refine ⟨6, B.L.length, B.L.length + 1, termsV y.ts, termV t a', termsV (y.ts ++ [(t, a')]), rfl, fun β w' hs' => row_rd (hs'.get 0 rfl), termV_one t a', rfl, by simp [termsV], by rw [maxLen_eq]; omega, by show (B.L.length + 1) * 112 ≤ _; omega, ?_⟩
      intro A' c' q1 q2 q3
      refine ⟨subPerm [5], ?_⟩
      refine ⟨subPerm [5], ?_⟩
      refine ⟨_, fun β w' hs' => hs'.bkSet 5 (o := 2) (us := [.slice A' (B.L.length + 1) c']) rfl (by show 3 ≤ 4; decide) (one_mem rfl), ?_⟩
      have hbx : putAll (boxCells B y) 2 [.slice A' (B.L.length + 1) c'] = [.bool B.sym, .bool B.full, .slice A' (B.L.length + 1) c', .map (some y.m)] := rfl
      rw [hbx]
      refine draw_rule g p_box_Box_tag_9 (by kernel_rfl) [⟨0, ty_box_Term, termS t a⟩] [bkF b ty_box_Box [.bool B.sym, .bool B.full, .slice A' (B.L.length + 1) c', .map (some y.m)]] (subPerm [5]) ?_
      refine ⟨.map (some y.m), fun β w' hs' => bk_cell (hs'.get 0 rfl) (o := 3) rfl, ?_⟩
      refine ⟨.slice A' (B.L.length + 1) c', fun β w' hs' => bk_cell (hs'.get 0 rfl) (o := 2) rfl, ?_⟩
      refine ⟨_, fun _ => _, fun β w' hs' => hs'.mapPutY g 7 rfl (t := ty_map_string_int) (str (Bx.print t)) (numV (B.L.length + 1)), fun _ => ?_⟩
      refine ⟨subPerm [5], ?_⟩
      refine ⟨.slice A' (B.L.length + 1) c', fun β w' hs' => bk_cell (hs'.get 5 rfl) (o := 2) rfl, ?_⟩
      refine call_con [] (fun β w' hs' => handle_c w' (B.L.length + 1)) ?_
      rintro v Fs ⟨A9, c9, rfl, r1, r2, rfl⟩
      have hmap : mput (mapL B.L 0) (str (Bx.print t)) (numV (B.L.length + 1)) = mapL (B.L ++ [t]) 0 := by rw [mput_new hlook, mapL_snoc]
      have hbF : bxF b { B with L := B.L ++ [t] } ⟨A', c', y.m, y.ts ++ [(t, a')]⟩ = sepF [bkF b ty_box_Box [.bool B.sym, .bool B.full, .slice A' (B.L.length + 1) c', .map (some y.m)], rowF ty_box_Term 6 (.slice A' (B.L.length + 1) c') (B.L.length + 1) (termsV (y.ts ++ [(t, a')])), mapF y.m (mapL (B.L ++ [t]) 0), partsF (y.ts ++ [(t, a')])] := by
        simp [bxF, bxFs, boxCells]
      intro β w' hs'
      have hs2 := (hs'.keepB (List.nil_sublist _)).fuse [2, 3, 4, 5, 9] (partsF (y.ts ++ [(t, a')])) (fun w hm => ?_) (fun k hk => ?_) rfl ⟨rfl, rfl, rfl, rfl, rfl, trivial⟩
      · have hs3 := hs2.sep [3, 4, 5, 0] rfl ⟨rfl, rfl, rfl, rfl, trivial⟩
        refine hs3.fin [1, 0] ⟨A9, c9, ⟨A', c', y.m, y.ts ++ [(t, a')]⟩, rfl, r1, r2, ?_, ?_⟩
        · rw [htag]
          show (y.ts ++ [(t, a')]).map (·.1) = B.L ++ [t]
          rw [List.map_append, hts]
          rfl
        · rw [htag]
          show _ = [browF ty_uint8 A9 (Bx.handle (B.L.length + 1)) c9, bxF b { B with L := B.L ++ [t] } ⟨A', c', y.m, y.ts ++ [(t, a')]⟩]
          rw [hbF, ← hmap]
          rfl
      · have hm' : Mem w [browF ty_uint8 a'.m t.mask a'.mc, irowF a'.l t.list a'.lc, browF ty_uint8 a'.t t.text a'.tc, browF ty_uint8 a'.k t.key a'.kc, partsF y.ts] := hm
        intro p hp
        rcases List.mem_append.1 hp with hp | hp
        · exact hm'.fact (partsF y.ts) (by simp) p hp
        · obtain rfl := List.mem_singleton.1 hp
          exact ⟨row_rd (hm'.fact (browF ty_uint8 a'.k t.key a'.kc) (by simp)), row_rd (hm'.fact (browF ty_uint8 a'.t t.text a'.tc) (by simp)), row_rd (hm'.fact (irowF a'.l t.list a'.lc) (by simp)), row_rd (hm'.fact (browF ty_uint8 a'.m t.mask a'.mc) (by simp))⟩
      · show Un [browF ty_uint8 a'.m t.mask a'.mc, irowF a'.l t.list a'.lc, browF ty_uint8 a'.t t.text a'.tc, browF ty_uint8 a'.k t.key a'.kc, partsF y.ts] k
        obtain ⟨p, hp, hk⟩ := hk
        rcases List.mem_append.1 hp with hp | hp
        · exact ⟨partsF y.ts, by simp, p, hp, hk⟩
        · obtain rfl := List.mem_singleton.1 hp
          have hrow : ∀ {size e n c : Nat} {A : Option Addr} {xs : List Value}, (rdF size A n xs).D k → (rowF e size (.slice A n c) n xs).D k := by
            rintro size e n c A xs ⟨_, ad, rfl, rfl⟩
            rfl
          rcases hk with hk | hk | hk | hk
          · exact ⟨browF ty_uint8 a'.k t.key a'.kc, by simp, hrow hk⟩
          · exact ⟨browF ty_uint8 a'.t t.text a'.tc, by simp, hrow hk⟩
          · exact ⟨irowF a'.l t.list a'.lc, by simp, hrow hk⟩
          · exact ⟨browF ty_uint8 a'.m t.mask a'.mc, by simp, hrow hk⟩
end Go.Proofs.YthkjfepbmnabkaaGreatDoor.Sx

/- A symbolic box's hash of one part. -/
namespace Go.Proofs.YthkjfepbmnabkaaGreatDoor.Sx
open Go
attribute [local irreducible] Calls

theorem bx_bk {b : Nat} {B : Bx.Box} {y : Lay} {w : World} (h : (bxF b B y).p w) : (bkF b ty_box_Box (boxCells B y)).p w := h.1 _ (by simp [bxFs])
theorem bx_rd {b : Nat} {B : Bx.Box} {y : Lay} {w : World} (h : (bxF b B y).p w) : Rd 6 y.A B.L.length (termsV y.ts) w := row_rd (h.1 (rowF ty_box_Term 6 (.slice y.A B.L.length y.c) B.L.length (termsV y.ts)) (by simp [bxFs]))
theorem bx_parts {b : Nat} {B : Bx.Box} {y : Lay} {w : World} (h : (bxF b B y).p w) : (partsF y.ts).p w := h.1 (partsF y.ts) (by simp [bxFs])
/-- A term of a text alone. -/
def hashT (l : List UInt8) : Bx.Term := ⟨1, [], l, 0, [], []⟩
theorem hashT_sz {l : List UInt8} (hl : l.length ≤ 1000000) : TSz (hashT l) := ⟨by show 1 < 1000; decide, by show 0 < 1000; decide, Nat.zero_le _, hl, Nat.zero_le _, fun _ h => (by cases h), Nat.zero_le _⟩
theorem rd_nil (w : World) (A : Option Addr) : Rd 1 A 0 [] w := ⟨rfl, fun h => by cases h⟩
end Go.Proofs.YthkjfepbmnabkaaGreatDoor.Sx

/- What looks like a handle, and its number. -/
namespace Go.Proofs.YthkjfepbmnabkaaGreatDoor.Sx
open Go
attribute [local irreducible] Calls

theorem beq_c (w : World) (A B : Option Addr) (l m : List UInt8) (c d : Nat) (hl : Bs w A l) (hm : Bs w B m) : Pu Tryz.prog n_bytes_Equal #[.slice A l.length c, .slice B m.length d] w (.bool (decide (l = m))) := by
  refine pu_of (calls_of_sx (cx := cx_bytes_Equal w None_) (good_bytes_Equal w None_) b_bytes_Equal rfl rfl (β := Va.z) [.c (.v (.slice A l.length c)), .c (.v (.slice B m.length d))] 0 [] [oldF w] rfl rfl (old_sat rfl) ?_)
  refine ⟨l, fun β w hs => Rd.old hl (hs.get 0 rfl), ?_⟩
  refine ⟨m, fun β w hs => Rd.old hm (hs.get 0 rfl), ?_⟩
  intro β w' hs
  refine ⟨?_, hs.chg⟩
  show Value.bool (decide ((⟨l.toArray⟩ : ByteArray) = ⟨m.toArray⟩)) = _
  congr 1
  simp
theorem or_i64 {x y : Nat} (hx : x < 36028797018963968) (hy : y < 256) : bits .or .i64 ((x * 256 : Nat) : Int) (y : Int) = ((x * 256 + y : Nat) : Int) := by
  show IntKind.i64.wrap (((BitVec.ofInt 64 ((x * 256 : Nat) : Int)) ||| (BitVec.ofInt 64 (y : Int))).toNat : Int) = _
  have h1 : (BitVec.ofInt 64 ((x * 256 : Nat) : Int)).toNat = x <<< 8 := by
    rw [BitVec.toNat_ofInt, Nat.shiftLeft_eq]
    omega
  have h2 : (BitVec.ofInt 64 (y : Int)).toNat = y := by
    rw [BitVec.toNat_ofInt]
    omega
  rw [BitVec.toNat_or, h1, h2, ← Nat.shiftLeft_add_eq_or_of_lt (by omega) x, Nat.shiftLeft_eq, wrap_i64 (by omega) (by omega)]
theorem shl_i64 {x : Nat} (hx : x < 36028797018963968) : IntKind.i64.wrap ((x : Int) * 2 ^ (min (8 : Int).toNat IntKind.i64.bits)) = ((x * 256 : Nat) : Int) := by
  have h1 : min (8 : Int).toNat IntKind.i64.bits = 8 := rfl
  rw [h1, wrap_i64 (by omega) (by omega)]
  omega
def numberV (l : List UInt8) : Value := match Bx.looks l with
  | some n => .tuple #[.int .i64 (n : Int), .bool (decide ((0 : Int) < (n : Int)))]
  | none => .tuple #[.int .i64 0, .bool false]
theorem num_snoc (l : List UInt8) (x : UInt8) : Bx.num (l ++ [x]) = Bx.num l * 256 + x.toNat := by simp [Bx.num]
theorem num_lt : ∀ (l : List UInt8), Bx.num l < 256 ^ l.length := by
  intro l
  have key : ∀ (l : List UInt8) (a : Nat), List.foldl (fun n (b : UInt8) => n * 256 + b.toNat) a l < (a + 1) * 256 ^ l.length := by
    intro l
    induction l with
    | nil => intro a; simp
    | cons x r ih =>
      intro a
      have := ih (a * 256 + x.toNat)
      have hx := x.toNat_lt
      have h1 : (a * 256 + x.toNat + 1) * 256 ^ r.length ≤ ((a + 1) * 256) * 256 ^ r.length := Nat.mul_le_mul_right _ (by omega)
      rw [List.foldl_cons, List.length_cons, Nat.pow_succ]
      have h2 : (a + 1) * (256 ^ r.length * 256) = ((a + 1) * 256) * 256 ^ r.length := by rw [Nat.mul_comm (256 ^ r.length) 256, ← Nat.mul_assoc]
      rw [h2]
      omega
  have := key l 0
  simpa [Bx.num] using this
theorem number_c (w : World) (A : Option Addr) (l : List UInt8) (c : Nat) (hr : Bs w A l) (hc : l.length ≤ c) (hn : l.length ≤ 1000000000) : Pu Tryz.prog n_box_Number #[.slice A l.length c] w (numberV l) := by
  have g := good_box_Number w (Un [])
  refine con_of_sx (cx := cx_box_Number w (Un [])) g b_box_Number rfl rfl (β := Va.z) [.c (.v (.slice A l.length c))] 0 [] [oldF w] rfl rfl (old_sat rfl) ?_
  refine draw_rule g p_box_Number_1 (by kernel_rfl) [] [oldF w] Sub.refl ?_
  have none_ : (Bx.looks l = none) → ∀ (n : Nat) (H : List Bk) (F : List Fact), ∀ β w', Sat (cx_box_Number w (Un [])) β n H F w' → Fin w [] (fun u Fs => u = numberV l ∧ Fs = []) (.tuple #[.int .i64 0, .bool false]) w' := fun h n H F β w' hs => hs.fin [] ⟨by unfold numberV; rw [h], rfl⟩
  refine BIf.not (BIf.dec (fun h32 => ?_) (fun h32 => ?_))
  · have hl : l.length = 32 := by omega
    refine ⟨c, 28, 0, 28, c, _, rfl, rfl, rfl, by omega, by omega, Nat.zero_le _, rfl, rfl, rfl, ?_⟩
    refine call_con [] (fun β w' hs => mark_c w') ?_
    rintro v Fs ⟨b, rfl, rfl⟩
    refine ⟨subPerm [1], ?_⟩
    have e28 : (l.take 28).length = 28 := by simp; omega
    refine call_pu (v := .bool (decide (l.take 28 = Bx.front))) (fun β w' hs => by
      have h := beq_c w' (cutA A c 0 1) (some ⟨b, 0, none⟩) (l.take 28) Bx.front c 28 (Bs.cutB (Rd.old hr (hs.get 1 rfl)) hc (Nat.zero_le 28) (by omega) (by simp)) (row_rd (hs.get 0 rfl))
      rw [e28] at h
      exact h) ?_
    refine ⟨subPerm [1], ?_⟩
    refine BIf.not (BIf.dec (fun hf => ?_) (fun hf => ?_))
    · have hlk : Bx.looks l = some (Bx.num (l.drop 28)) := by unfold Bx.looks; rw [if_pos ⟨hl, hf⟩]
      refine ⟨c, 32, 28, 4, c - 28, _, rfl, hl.symm, rfl, by omega, by omega, by omega, rfl, rfl, rfl, ?_⟩
      have hd : (l.drop 28).length = 4 := by simp; omega
      have hrd : ∀ w', (oldF w).p w' → Bs w' (cutA A c 28 1) (l.drop 28) := fun w' ho => Bs.cutB (Rd.old hr ho) hc (show 28 ≤ 32 by decide) (by omega) (by rw [List.take_of_length_le (by omega)])
      refine loop_rule 0 (fun k : Nat => [(18, .c (.v (.slice (cutA A c 28 1) 4 (c - 28)))), (19, .c (.v (.int .i64 4))), (20, .c (.v (.int .i64 k))), (4, .c (.v (.int .i64 (Bx.num ((l.drop 28).take k)))))]) (fun _ => []) (fun _ => [oldF w])
        (fun k => k ≤ 4) (fun k => 4 - k) 0 (Nat.zero_le _) (Ent.mk' ⟨rfl, rfl, rfl, rfl, trivial⟩ rfl (fun β w' hs => hs.perm [1])) g ?_
      intro k hk
      refine BIf.dec (fun hlt => ?_) (fun hge => ?_)
      · have hk4 : k < (l.drop 28).length := by omega
        obtain ⟨x, hx, _⟩ := at_lt hk4
        obtain ⟨ad, hA⟩ := Bs.addr (hrd w (fun _ _ => rfl)) (by omega)
        have hnum : Bx.num ((l.drop 28).take k) < 36028797018963968 := by
          have h1 := num_lt ((l.drop 28).take k)
          have h2 : ((l.drop 28).take k).length ≤ 4 := by rw [List.length_take]; omega
          have h3 : 256 ^ ((l.drop 28).take k).length ≤ 256 ^ 4 := Nat.pow_le_pow_right (by decide) h2
          have h4 : 256 ^ 4 < 36028797018963968 := by decide
          omega
        have hxl := x.toNat_lt
        refine ⟨ad, k, hA, rfl, by omega, byte x, fun β w' hs => by
          have h := hrd w' (hs.get 0 rfl)
          rw [hA] at h
          exact Rd.cell1 h (by rw [List.getElem?_map, hx]; rfl), ?_⟩
        refine ⟨by decide, _, shl_i64 hnum, ?_⟩
        refine ⟨((x.toNat : Nat) : Int), wrap_i64 (by omega) (by omega), ?_⟩
        refine ⟨_, or_i64 hnum hxl, ?_⟩
        refine ⟨((k + 1 : Nat) : Int), by rw [wrap_i64 (by omega) (by omega)]; rfl, ?_⟩
        have e : Bx.num ((l.drop 28).take (k + 1)) = Bx.num ((l.drop 28).take k) * 256 + x.toNat := by
          rw [List.take_add_one, hx]
          exact num_snoc _ _
        refine ⟨k + 1, by omega, by omega, Ent.same ⟨rfl, rfl, rfl, ?_, trivial⟩ rfl⟩
        rw [e]
        rfl
      · have hk4 : k = 4 := by omega
        subst hk4
        intro β w' hs
        refine hs.fin [] ⟨?_, rfl⟩
        unfold numberV
        rw [hlk]
        have e : (l.drop 28).take 4 = l.drop 28 := List.take_of_length_le (by omega)
        rw [e]
        rfl
    · exact none_ (by unfold Bx.looks; rw [if_neg (fun q => hf q.2)]) _ _ _
  · exact ⟨Sub.refl, Sub.refl, none_ (by unfold Bx.looks; rw [if_neg (fun q => h32 (by have := q.1; omega))]) _ _ _⟩
end Go.Proofs.YthkjfepbmnabkaaGreatDoor.Sx

/- A tag, opened. -/
namespace Go.Proofs.YthkjfepbmnabkaaGreatDoor.Sx
open Go
attribute [local irreducible] Calls

theorem fact_old {f : Fact} {W w : World} (h : f.p W) (hD : ∀ k, f.D k → k < W.heap.size) (ho : (oldF W).p w) : f.p w := f.st W w (fun k hk => ho k (hD k hk)) h
/-- A sum, in memory. -/
def sumV (A1 : Option Addr) (l : List Nat) (c1 : Nat) (A2 : Option Addr) (m : List UInt8) (c2 : Nat) : Value := .agg #[.slice A1 l.length c1, .slice A2 m.length c2]
def openOut (B : Bx.Box) (tag : List UInt8) (v : Value) (Fs : List Fact) : Prop := match B.opens tag with
  | none => v = .tuple #[.agg #[.slice none 0 0, .slice none 0 0], .bool false] ∧ Fs = []
  | some (l, m) => ∃ A1 c1 A2 c2, v = .tuple #[sumV A1 l c1 A2 m c2, .bool true] ∧ m.length ≤ c2 ∧ Fs = [irowF A1 l c1, browF ty_uint8 A2 m c2]
theorem openOut_none {B : Bx.Box} {tag : List UInt8} (h : B.opens tag = none) : openOut B tag = fun v Fs => v = .tuple #[.agg #[.slice none 0 0, .slice none 0 0], .bool false] ∧ Fs = [] := by funext v Fs; unfold openOut; rw [h]
theorem openOut_some {B : Bx.Box} {tag : List UInt8} {l : List Nat} {m : List UInt8} (h : B.opens tag = some (l, m)) : openOut B tag = fun v Fs => ∃ A1 c1 A2 c2, v = .tuple #[sumV A1 l c1 A2 m c2, .bool true] ∧ m.length ≤ c2 ∧ Fs = [irowF A1 l c1, browF ty_uint8 A2 m c2] := by funext v Fs; unfold openOut; rw [h]
theorem number_v (l : List UInt8) : ∃ (n : Nat) (ok : Bool), numberV l = .tuple #[.int .i64 (n : Int), .bool ok] ∧ (l.length = 32 → l.take 28 = Bx.front → n = Bx.num (l.drop 28)) := by
  by_cases h : l.length = 32 ∧ l.take 28 = Bx.front
  · exact ⟨Bx.num (l.drop 28), decide ((0 : Int) < ((Bx.num (l.drop 28) : Nat) : Int)), by unfold numberV Bx.looks; rw [if_pos h], fun _ _ => rfl⟩
  · exact ⟨0, false, by unfold numberV Bx.looks; rw [if_neg h]; rfl, fun h1 h2 => (h ⟨h1, h2⟩).elim⟩
theorem open_c (w : World) (b : Nat) (B : Bx.Box) (y : Lay) (A : Option Addr) (l : List UInt8) (c : Nat) (hts : y.ts.map (·.1) = B.L) (hL : B.L.length ≤ 4096) (hsz : ∀ t ∈ B.L, TSz t) (hb : (bxF b B y).p w) (hbD : ∀ k, (bxF b B y).D k → k < w.heap.size) (hr : Bs w A l) (hc : l.length ≤ c) (hl : l.length ≤ 1000000) :
    Con Tryz.prog n_box_Box_open #[.pointer (some ⟨b, 0, none⟩), .slice A l.length c] w [] (openOut B l) := by
  have g := good_box_Box_open w (Un [])
  refine con_of_sx (cx := cx_box_Box_open w (Un [])) g b_box_Box_open rfl rfl (β := Va.z) [.c (.v (.pointer (some ⟨b, 0, none⟩))), .c (.v (.slice A l.length c))] 0 [] [oldF w] rfl rfl (old_sat rfl) ?_
  refine ⟨32, 32, rfl, rfl, Nat.le_refl _, by decide, by decide, ?_⟩
  intro b1
  obtain ⟨n, ok, hnv, hnn⟩ := number_v l
  refine call_pu (v := .tuple #[.int .i64 (n : Int), .bool ok]) (fun β w' hs => by
    have h := number_c w' A l c (Rd.old hr (hs.get 1 rfl)) hc (by omega)
    rw [hnv] at h
    exact h) ?_
  have hbx : ∀ w', (oldF w).p w' → (bxF b B y).p w' := fun w' ho => fact_old hb hbD ho
  refine BIf.not (BIf.dec (fun h32 => ?_) (fun h32 => ?_))
  · have hl32 : l.length = 32 := by omega
    -- what isn't taken for a handle
    have raw : ¬ (B.sym = true ∧ l.take 28 = Bx.front) → ∀ {A2 : Option Addr} {c2 : Nat}, l.length ≤ c2 → ∀ {n : Nat} {H : List Bk} {F : List Fact} (j : Nat) (_ : nth F j = some (browF ty_uint8 A2 l c2)) (β : Va) (w' : World), Sat (cx_box_Box_open w (Un [])) β n H F w' → Fin w [] (openOut B l) (.tuple #[sumV none [] 0 A2 l c2, .bool true]) w' := by
      intro hno A2 c2 hc2 n H F j hj β w' hs
      rw [openOut_some (Bx.opens_raw hl32 hno)]
      have hs2 := ((hs.keepB (List.nil_sublist _)).perm [j]).nilRow ty_int 1
      have e : takeIx F [j] = [browF ty_uint8 A2 l c2] := by simp only [takeIx, hj]
      rw [e] at hs2
      exact hs2.fin [0, 1] ⟨none, 0, A2, c2, rfl, hc2, rfl⟩
    cases hsym : B.sym with
    | false =>
      refine draw_rule g p_box_Box_open_5 (by kernel_rfl) [] [oldF w] (Sub.of (List.nil_sublist _) (List.sublist_cons_self _ _)) ?_
      refine ⟨.bool false, fun β w' hs => box_cell (bx_bk (hbx w' (hs.get 0 rfl))) (o := 0) (by simp [boxCells, hsym]), ?_⟩
      refine ⟨Sub.of (List.nil_sublist _) (List.sublist_cons_self _ _), Sub.of (List.nil_sublist _) (List.sublist_cons_self _ _), ?_⟩
      refine call_con [] (fun β w' hs => clone_c w' A l c (Rd.old hr (hs.get 1 rfl)) (by omega)) ?_
      rintro v Fs ⟨A2, c2, rfl, q1, _, rfl⟩
      exact fun β w' hs => raw (fun q => by rw [hsym] at q; cases q.1) q1 0 rfl β w' hs
    | true =>
      refine draw_rule g p_box_Box_open_5 (by kernel_rfl) [] [oldF w] (Sub.of (List.nil_sublist _) (List.sublist_cons_self _ _)) ?_
      refine ⟨.bool true, fun β w' hs => box_cell (bx_bk (hbx w' (hs.get 0 rfl))) (o := 0) (by simp [boxCells, hsym]), ?_⟩
      refine ⟨c, 28, 0, 28, c, _, rfl, rfl, rfl, by omega, by omega, Nat.zero_le _, rfl, rfl, rfl, ?_⟩
      refine call_con [] (fun β w' hs => mark_c w') ?_
      rintro v Fs ⟨b2, rfl, rfl⟩
      have hSS : ∀ {n : Nat} {H : List Bk} {f1 f2 : Fact}, Sub (cx_box_Box_open w (Un [])) n H [f1, f2, oldF w] [] [oldF w] := fun {n H f1 f2} => Sub.of (List.nil_sublist _) ((List.sublist_cons_self _ _).trans (List.sublist_cons_self _ _))
      refine ⟨hSS, ?_⟩
      have e28 : (l.take 28).length = 28 := by simp; omega
      refine call_pu (v := .bool (decide (l.take 28 = Bx.front))) (fun β w' hs => by
        have h := beq_c w' (cutA A c 0 1) (some ⟨b2, 0, none⟩) (l.take 28) Bx.front c 28 (Bs.cutB (Rd.old hr (hs.get 2 rfl)) hc (Nat.zero_le 28) (by omega) (by simp)) (row_rd (hs.get 0 rfl))
        rw [e28] at h
        exact h) ?_
      refine ⟨hSS, ?_⟩
      refine BIf.not (BIf.dec (fun hf => ?_) (fun hf => ?_))
      · have hn := hnn hl32 hf
        have out_ : (n < 1 ∨ B.L.length < n) → ∀ {m : Nat} {H : List Bk} {F : List Fact} (β : Va) (w' : World), Sat (cx_box_Box_open w (Un [])) β m H F w' → Fin w [] (openOut B l) (.tuple #[.agg #[.slice none 0 0, .slice none 0 0], .bool false]) w' := by
          intro ho m H F β w' hs
          rw [openOut_none (Bx.opens_out hl32 hsym hf hn.symm ho)]
          exact (hs.keepB (List.nil_sublist _)).fin [] ⟨rfl, rfl⟩
        refine BIf.dec (fun hn1 => ?_) (fun hn1 => ?_)
        · have hn1' : (n : Int) < 1 := hn1
          exact fun β w' hs => out_ (.inl (by omega)) β w' hs
        have hn1' : ¬ (n : Int) < 1 := hn1
        refine ⟨.slice y.A B.L.length y.c, fun β w' hs => box_cell (bx_bk (hbx w' (hs.get 2 rfl))) (o := 2) rfl, ?_⟩
        refine BIf.dec (fun hgt => ?_) (fun hgt => ?_)
        · have hgt' : (B.L.length : Int) < (n : Int) := hgt
          exact fun β w' hs => out_ (.inr (by omega)) β w' hs
        have hgt' : ¬ (B.L.length : Int) < (n : Int) := hgt
        have hlen : y.ts.length = B.L.length := by rw [← hts, List.length_map]
        obtain ⟨q, hq, hqm⟩ := at_lt (l := y.ts) (k := n - 1) (by omega)
        have hqL : B.L[n - 1]? = some q.1 := by rw [← hts, List.getElem?_map, hq]; rfl
        have hqB : q.1 ∈ B.L := List.mem_of_getElem? hqL
        have hqs := hsz _ hqB
        have hin := Bx.opens_in hl32 hsym hf hn.symm (by omega) hqL
        obtain ⟨ad, hA, _⟩ := (bx_rd hb).2 (by omega)
        refine ⟨.slice y.A B.L.length y.c, fun β w' hs => box_cell (bx_bk (hbx w' (hs.get 2 rfl))) (o := 2) rfl, ?_⟩
        refine ⟨((n - 1 : Nat) : Int), by rw [wrap_i64 (by omega) (by omega)]; omega, ?_⟩
        refine ⟨ad, n - 1, hA, rfl, by omega, ?_⟩
        refine ⟨termV q.1 q.2, rfl, fun β w' hs => ?_, ?_⟩
        · have h := bx_rd (hbx w' (hs.get 2 rfl))
          rw [← hlen] at h
          obtain ⟨hil, hie⟩ := List.getElem?_eq_some_iff.1 hq
          have h2 := Rd.elem (f := fun p : Bx.Term × TA => termV p.1 p.2) (fun _ => rfl) h hA hil
          rw [hie] at h2
          exact h2
        have hpt : ∀ w', (oldF w).p w' → TRd q.1 q.2 w' := fun w' ho => bx_parts (hbx w' ho) q hqm
        have hkey := hqs.mask
        have hlst := hqs.list
        refine BIf.dec (fun hk => ?_) (fun hk => ?_)
        · have hk' : ((q.1.kind : Nat) : Int) = 4 := hk
          have hk4 : q.1.kind = 4 := by omega
          rw [if_pos hk4] at hin
          rw [openOut_some hin]
          have hH : ∀ {n : Nat} {H : List Bk} {F : List Fact}, Sub (cx_box_Box_open w (Un [])) n (⟨1, ty_box_Term, termS q.1 q.2⟩ :: H) F [⟨1, ty_box_Term, termS q.1 q.2⟩] [] := fun {n H F} => Sub.of ((List.nil_sublist _).cons_cons _) (List.nil_sublist _)
          refine draw_rule g p_box_Box_open_11 (by kernel_rfl) [⟨1, ty_box_Term, termS q.1 q.2⟩] [] hH ?_
          refine call_con [] (fun β w' hs => cloneI_c w' q.2.l q.1.list q.2.lc (hpt w' (hs.get 2 rfl)).hl (by omega)) ?_
          rintro v Fs ⟨A3, c3, rfl, _, _, rfl⟩
          refine ⟨hH, ?_⟩
          refine call_con [] (fun β w' hs => clone_c w' q.2.m q.1.mask q.2.mc (hpt w' (hs.get 3 rfl)).hm (by omega)) ?_
          rintro v Fs ⟨A4, c4, rfl, q4, _, rfl⟩
          refine ⟨hH, ?_⟩
          refine ⟨hH, ?_⟩
          intro β w' hs
          exact (hs.keepB (List.nil_sublist _)).fin [1, 0] ⟨A3, c3, A4, c4, rfl, q4, rfl⟩
        · have hk' : ¬ ((q.1.kind : Nat) : Int) = 4 := hk
          have hk4 : ¬ q.1.kind = 4 := by omega
          rw [if_neg hk4] at hin
          rw [openOut_some hin]
          intro b5
          intro β w' hs
          exact (hs.keepB (List.nil_sublist _)).fin [0, 2] ⟨some ⟨b5, 0, none⟩, 1, some ⟨b1, 0, none⟩, 32, rfl, Nat.le_refl _, rfl⟩
      · refine call_con [] (fun β w' hs => clone_c w' A l c (Rd.old hr (hs.get 2 rfl)) (by omega)) ?_
        rintro v Fs ⟨A2, c2, rfl, q1, _, rfl⟩
        exact fun β w' hs => raw (fun q => hf q.2) q1 0 rfl β w' hs
  · have hl32 : l.length ≠ 32 := by omega
    intro β w' hs
    rw [openOut_none (Bx.opens_len hl32)]
    exact (hs.keepB (List.nil_sublist _)).fin [] ⟨rfl, rfl⟩
end Go.Proofs.YthkjfepbmnabkaaGreatDoor.Sx

/- Bytes, one by one. -/
namespace Go.Proofs.YthkjfepbmnabkaaGreatDoor.Sx
open Go
attribute [local irreducible] Calls

theorem xorB_len (a b : List UInt8) : (Bx.xorB a b).length = min a.length b.length := by simp [Bx.xorB]
theorem xorB_snoc (a b : List UInt8) {i : Nat} (ha : i < a.length) (hb : i < b.length) : (Bx.xorB a b).take (i + 1) = (Bx.xorB a b).take i ++ [a[i] ^^^ b[i]] := by
  have h : i < (Bx.xorB a b).length := by rw [xorB_len]; omega
  rw [take_snoc _ i h]
  congr 1
  simp [Bx.xorB]
theorem xor_c (w : World) (A B : Option Addr) (l m : List UInt8) (c d : Nat) (hl : Bs w A l) (hm : Bs w B m) (hn : l.length ≤ 70368744177664) :
    Con Tryz.prog n_hmac_Xor #[.slice A l.length c, .slice B m.length d] w [] fun v Fs => ∃ A' c', v = .slice A' (Bx.xorB l m).length c' ∧ (Bx.xorB l m).length ≤ c' ∧ c' ≤ maxLen ∧ Fs = [browF ty_uint8 A' (Bx.xorB l m) c'] := by
  have g := good_hmac_Xor w (Un [])
  refine con_of_sx (cx := cx_hmac_Xor w (Un [])) g b_hmac_Xor rfl rfl (β := Va.z) [.c (.v (.slice A l.length c)), .c (.v (.slice B m.length d))] 0 [] [browF ty_uint8 none [] 0, oldF w] rfl rfl ((old_sat rfl).nilRow _ _) ?_
  have hx := xorB_len l m
  obtain ⟨r, hr⟩ : ∃ r, (Bx.xorB l m).length = r := ⟨_, rfl⟩
  refine ⟨(r : Int), ?_, ?_⟩
  · show min (l.length : Int) (m.length : Int) = _
    omega
  refine loop_rule (ι := Nat × Option Addr × Nat) 0 (fun i => [(0, .c (.v (.slice A l.length c))), (1, .c (.v (.slice B m.length d))), (11, .c (.v (.int .i64 r))), (12, .c (.v (.int .i64 i.1))), (5, .c (.v (.slice i.2.1 i.1 i.2.2)))]) (fun _ => [])
    (fun i => [rowF ty_uint8 1 (.slice i.2.1 i.1 i.2.2) i.1 (((Bx.xorB l m).take i.1).map byte), oldF w])
    (fun i => i.1 ≤ r ∧ i.1 ≤ i.2.2 ∧ i.2.2 ≤ maxLen) (fun i => r - i.1) (0, none, 0) ⟨Nat.zero_le _, Nat.zero_le _, Nat.zero_le _⟩ (Ent.same ⟨rfl, rfl, rfl, rfl, rfl, trivial⟩ rfl) g ?_
  rintro ⟨i, A1, c1⟩ ⟨hi, hc, hcm⟩
  simp only at hi hc hcm
  refine BIf.dec (fun hlt => ?_) (fun hge => ?_)
  · have hlt0 : (i : Int) < (r : Int) := hlt
    have h1 : i < l.length := by omega
    have h2 : i < m.length := by omega
    obtain ⟨ad, hA⟩ := Bs.addr hl (by omega)
    obtain ⟨bd, hB⟩ := Bs.addr hm (by omega)
    have hSS : ∀ {n : Nat} {H : List Bk} {f1 : Fact}, Sub (cx_hmac_Xor w (Un [])) n H [f1, oldF w] [] [oldF w] := fun {n H f1} => Sub.of (List.nil_sublist _) (List.sublist_cons_self _ _)
    have hSS2 : ∀ {n : Nat} {H : List Bk} {f1 f2 : Fact}, Sub (cx_hmac_Xor w (Un [])) n H [f1, f2, oldF w] [] [oldF w] := fun {n H f1 f2} => Sub.of (List.nil_sublist _) ((List.sublist_cons_self _ _).trans (List.sublist_cons_self _ _))
    refine draw_rule g p_hmac_Xor_5 (by kernel_rfl) [] [oldF w] hSS ?_
    refine ⟨ad, i, hA, rfl, h1, byte l[i], fun β w' hs => Bs.cell (Rd.old hl (hs.get 0 rfl)) hA h1, ?_⟩
    refine ⟨bd, i, hB, rfl, h2, byte m[i], fun β w' hs => Bs.cell (Rd.old hm (hs.get 0 rfl)) hB h2, ?_⟩
    refine ⟨_, xor8 _ _, ?_⟩
    intro b2
    refine ⟨hSS2, ?_⟩
    refine ⟨1, i, i + 1, ((Bx.xorB l m).take i).map byte, [l[i] ^^^ m[i]].map byte, _, rfl, fun β w hs => row_rd (hs.get 0 rfl), bytes_one _, rfl, rfl, by rw [maxLen_eq]; omega, by show (i + 1) * 1 ≤ _; omega, ?_⟩
    intro A' c' q1 q2 _
    refine ⟨hSS2, ?_⟩
    refine ⟨((i + 1 : Nat) : Int), by rw [wrap_i64 (by omega) (by omega)]; rfl, ?_⟩
    refine ⟨(i + 1, A', c'), ⟨by show i + 1 ≤ r; omega, q1, q2⟩, by show r - (i + 1) < r - i; omega, Ent.mk' ⟨rfl, rfl, rfl, rfl, rfl, trivial⟩ rfl (fun β w' hs => ?_)⟩
    have h3 := hs.weaken (List.Sublist.refl _) (List.sublist_cons_self _ _)
    show Sat _ _ _ _ [rowF ty_uint8 1 (.slice A' (i + 1) c') (i + 1) (((Bx.xorB l m).take (i + 1)).map byte), oldF w] _
    rw [xorB_snoc l m h1 h2, List.map_append]
    exact h3
  · have hge0 : ¬ (i : Int) < (r : Int) := hge
    obtain rfl : i = r := by omega
    intro β w' hs
    refine hs.fin [0] ⟨A1, c1, by rw [hr]; rfl, by rw [hr]; exact hc, hcm, ?_⟩
    show [rowF ty_uint8 1 (.slice A1 i c1) i _] = [rowF ty_uint8 1 (.slice A1 (Bx.xorB l m).length c1) (Bx.xorB l m).length _]
    rw [hr, List.take_of_length_le (by omega)]
end Go.Proofs.YthkjfepbmnabkaaGreatDoor.Sx

/- The reference's sums with a key. -/
namespace Go.Proofs.YthkjfepbmnabkaaGreatDoor.Sx
open Go
attribute [local irreducible] Calls

theorem copyC (w : World) (A : Option Addr) (l : List UInt8) (c : Nat) (hr : Bs w A l) (hn : l.length ≤ lim) :
    Con Tryz.prog n_ostiaryref01_Copy #[.slice A l.length c] w [] fun v Fs => ∃ A' c', v = .slice A' l.length c' ∧ l.length ≤ c' ∧ c' ≤ maxLen ∧ Fs = [browF ty_uint8 A' l c'] := con_row (copy_c w A l c hr hn)
/-- A row of bytes, from now on to be read. -/
theorem Sat.ro {cx : Cx} {β : Va} {n : Nat} {H : List Bk} {F : List Fact} {w : World} (h : Sat cx β n H F w) (j : Nat) {e : Nat} {A : Option Addr} {l : List UInt8} {c : Nat} (hj : nth F j = some (browF e A l c)) : Sat cx β n H (putAt F j (bsF A l)) w := by
  have hp := h.get j hj
  exact h.upd hj rfl (Chg.refl _ _) (row_rd hp) (fun k hk => .inl (browRoD hp k hk))
theorem repl_reps : ∀ n, repl ti5.zero n = reps n 0
  | 0 => rfl
  | n + 1 => by
    rw [repl, repl_reps n]
    rfl
theorem rxor_c (w : World) (A B : Option Addr) (l m : List UInt8) (c d : Nat) (hl : Bs w A l) (hm : Bs w B m) (hn : l.length ≤ 1000000) :
    Con Tryz.prog n_ostiaryref02_Xor #[.slice A l.length c, .slice B m.length d] w [] fun v Fs => ∃ A' c', v = .slice A' (Bx.xorB l m).length c' ∧ (Bx.xorB l m).length ≤ c' ∧ c' ≤ maxLen ∧ Fs = [browF ty_uint8 A' (Bx.xorB l m) c'] := by
  have g := good_ostiaryref02_Xor w (Un [])
  refine con_of_sx (cx := cx_ostiaryref02_Xor w (Un [])) g b_ostiaryref02_Xor rfl rfl (β := Va.z) [.c (.v (.slice A l.length c)), .c (.v (.slice B m.length d))] 0 [] [oldF w] rfl rfl (old_sat rfl) ?_
  have hx := xorB_len l m
  obtain ⟨r, hr⟩ : ∃ r, (Bx.xorB l m).length = r := ⟨_, rfl⟩
  have hrn : r ≤ 1000000 := by omega
  refine ⟨(r : Int), ?_, ?_⟩
  · show min (l.length : Int) (m.length : Int) = _
    omega
  refine ⟨r, r, rfl, rfl, Nat.le_refl _, by show 1 * r ≤ _; omega, by rw [maxLen_eq]; omega, ?_⟩
  intro b
  refine loop_rule (ι := Nat) 0 (fun i => [(0, .c (.v (.slice A l.length c))), (1, .c (.v (.slice B m.length d))), (6, .c (.v (.slice (some ⟨b, 0, none⟩) r r))), (16, .c (.v (.int .i64 (r : Int)))), (17, .c (.v (.int .i64 (i : Int))))]) (fun _ => [])
    (fun i => [rowF ty_uint8 1 (.slice (some ⟨b, 0, none⟩) r r) r (((Bx.xorB l m).take i).map byte ++ reps (r - i) 0), oldF w])
    (fun i => i ≤ r) (fun i => r - i) 0 (Nat.zero_le _) (Ent.mk' ⟨rfl, rfl, rfl, rfl, rfl, trivial⟩ rfl (fun β w' hs => by
      have e : ((Bx.xorB l m).take 0).map byte ++ reps (r - 0) 0 = repl ti5.zero r := by rw [repl_reps]; simp
      rw [e]
      exact hs)) g ?_
  intro i hi
  refine BIf.dec (fun hlt => ?_) (fun hge => ?_)
  · have hlt0 : (i : Int) < (r : Int) := hlt
    have h1 : i < l.length := by omega
    have h2 : i < m.length := by omega
    obtain ⟨ad, hA⟩ := Bs.addr hl (by omega)
    obtain ⟨bd, hB⟩ := Bs.addr hm (by omega)
    refine draw_rule g p_ostiaryref02_Xor_6 (by kernel_rfl) [] [oldF w] (Sub.of (List.Sublist.refl _) (List.sublist_cons_self _ _)) ?_
    refine ⟨ad, i, hA, rfl, h1, byte l[i], fun β w' hs => Bs.cell (Rd.old hl (hs.get 0 rfl)) hA h1, ?_⟩
    refine ⟨bd, i, hB, rfl, h2, byte m[i], fun β w' hs => Bs.cell (Rd.old hm (hs.get 0 rfl)) hB h2, ?_⟩
    refine ⟨_, xor8 _ _, ?_⟩
    refine ⟨⟨b, 0, none⟩, i, rfl, rfl, by omega, ?_⟩
    refine ⟨[rowF ty_uint8 1 (.slice (some ⟨b, 0, none⟩) r r) r (((Bx.xorB l m).take (i + 1)).map byte ++ reps (r - (i + 1)) 0), oldF w], fun β w' hs => ?_, ?_⟩
    · obtain ⟨w2, q1, q2⟩ := hs.rowSet (j := 0) (o := i) (us := [byte (l[i] ^^^ m[i])]) rfl (by simp only [List.length_singleton]; omega) (fun u hu => by obtain rfl := List.mem_singleton.1 hu; rfl)
      have e : putAll (((Bx.xorB l m).take i).map byte ++ reps (r - i) 0) i [byte (l[i] ^^^ m[i])] = ((Bx.xorB l m).take (i + 1)).map byte ++ reps (r - (i + 1)) 0 := by
        have hl2 : (((Bx.xorB l m).take i).map byte).length = i := by rw [List.length_map, List.length_take, hr]; omega
        have q := putAll_app (((Bx.xorB l m).take i).map byte) (reps (r - i) 0) [byte (l[i] ^^^ m[i])] (by rw [reps_len]; simp only [List.length_singleton]; omega)
        rw [hl2] at q
        rw [q, xorB_snoc l m h1 h2, List.map_append]
        congr 1
        unfold reps
        rw [← List.map_drop, List.drop_replicate]
        congr 1
      rw [e] at q2
      have q1' : (storeCells ((⟨b, 0, none⟩ : Addr).add (i * 1)) [byte (l[i] ^^^ m[i])] 0).run (cx_ostiaryref02_Xor w (Un [])).P w' = .ok () w2 := by rw [Nat.mul_one]; exact q1
      exact ⟨w2, q1', q2⟩
    refine ⟨((i + 1 : Nat) : Int), by rw [wrap_i64 (by omega) (by omega)]; rfl, ?_⟩
    exact ⟨i + 1, by omega, by omega, Ent.same ⟨rfl, rfl, rfl, rfl, rfl, trivial⟩ rfl⟩
  · have hge0 : ¬ (i : Int) < (r : Int) := hge
    obtain rfl : i = r := by omega
    intro β w' hs
    refine hs.fin [0] ⟨some ⟨b, 0, none⟩, i, by rw [hr]; rfl, by omega, by rw [maxLen_eq]; omega, ?_⟩
    show [rowF ty_uint8 1 (.slice (some ⟨b, 0, none⟩) i i) i _] = [rowF ty_uint8 1 (.slice (some ⟨b, 0, none⟩) (Bx.xorB l m).length i) (Bx.xorB l m).length _]
    rw [hr, List.take_of_length_le (by omega), Nat.sub_self]
    simp [reps]

/-! ### turned -/
def rawK (k : List UInt8) : List UInt8 := k ++ List.replicate (64 - k.length) 0
theorem rawK_len {k : List UInt8} (h : k.length ≤ 64) : (rawK k).length = 64 := by simp [rawK]; omega
def turnN (k : List UInt8) (x : UInt8) (i : Nat) : List UInt8 := ((rawK k).take i).map (· ^^^ x) ++ (rawK k).drop i
theorem turnN_at {k : List UInt8} {x y : UInt8} {i : Nat} (h : (rawK k)[i]? = some y) : (turnN k x i)[i]? = some y := by
  have hi : i < (rawK k).length := (List.getElem?_eq_some_iff.1 h).1
  unfold turnN
  rw [List.getElem?_append_right (by simp only [List.length_map, List.length_take]; omega)]
  simp only [List.length_map, List.length_take, List.getElem?_drop]
  rw [show i + (i - min i (rawK k).length) = i by omega]
  exact h
theorem turnN_set {k : List UInt8} {x y : UInt8} {i : Nat} (h : (rawK k)[i]? = some y) : (turnN k x i).set i (y ^^^ x) = turnN k x (i + 1) := by
  have hi : i < (rawK k).length := (List.getElem?_eq_some_iff.1 h).1
  unfold turnN
  rw [List.set_append_right _ _ (by simp only [List.length_map, List.length_take]; omega)]
  simp only [List.length_map, List.length_take]
  rw [show i - min i (rawK k).length = 0 by omega, List.drop_eq_getElem_cons hi, List.set_cons_zero, List.take_add_one, h]
  simp
theorem turnN_all {k : List UInt8} {x : UInt8} (h : k.length ≤ 64) : turnN k x 64 = k.map (x ^^^ ·) ++ List.replicate (64 - k.length) x := by
  unfold turnN
  rw [List.take_of_length_le (by rw [rawK_len h]; omega), List.drop_of_length_le (by rw [rawK_len h]; omega), List.append_nil]
  unfold rawK
  rw [List.map_append, List.map_replicate]
  congr 1
  · exact List.map_congr_left fun y _ => UInt8.xor_comm _ _
  · congr 1
    exact UInt8.zero_xor
set_option maxHeartbeats 1000000 in
theorem rturned_c (w : World) (A : Option Addr) (l : List UInt8) (c : Nat) (x : UInt8) (hr : Bs w A l) (hn : l.length ≤ 1000000) (h1 : (oddF 3).p w) :
    Con Tryz.prog n_ostiaryref02_turned #[.slice A l.length c, byte x] w [] fun v Fs => ∃ b, v = .slice (some ⟨b, 0, none⟩) (padL l x).length 64 ∧ Fs = [browF ty_uint8 (some ⟨b, 0, none⟩) (padL l x) 64] := by
  have g := good_ostiaryref02_turned w (Un [])
  refine con_of_sx (cx := cx_ostiaryref02_turned w (Un [])) g b_ostiaryref02_turned rfl rfl (β := Va.z) [.c (.v (.slice A l.length c)), .c (.v (byte x))] 0 [] [oldF w] rfl rfl (old_sat rfl) ?_
  refine BIf.dec (fun hlt => ?_) (fun hge => ?_)
  · have hlt0 : (64 : Int) < (l.length : Int) := hlt
    obtain ⟨k, hks⟩ : ∃ k, Sha.sum l = k := ⟨_, rfl⟩
    have hk : keyL l = k := by unfold keyL; rw [if_pos (by omega)]; exact hks
    have hk64 : k.length ≤ 64 := by rw [← hk]; exact keyL_len
    refine call_con [] (R := fun v Fs => ∃ A' c', v = .slice A' k.length c' ∧ Fs = [browF ty_uint8 A' k c']) (fun β w' hs => (rsum_c w' A l c (Rd.old hr (hs.get 0 rfl)) (Rd.old h1 (hs.get 0 rfl)) (by omega)).mono (by rintro v Fs ⟨A', c', rfl, _, _, rfl⟩; exact ⟨A', c', by rw [← hks]; rfl, by rw [hks]⟩)) ?_
    rintro v Fs ⟨A2, c2, rfl, rfl⟩
    have hkr : ∀ {w'}, (browF ty_uint8 A2 k c2).p w' → Bs w' A2 k := fun h => row_rd h
    refine ⟨64, 64, rfl, rfl, Nat.le_refl _, by decide, by decide, ?_⟩
    intro b
    have hk0 : min k.length 64 = k.length := by omega
    refine ⟨[], [rowF ty_uint8 1 (.slice (some ⟨b, 0, none⟩) 64 64) 64 ((rawK k).map byte), browF ty_uint8 A2 k c2, oldF w], .c (.v (.int .i64 (k.length : Int))), fun β w' ty hs => ?_, trivial, ?_⟩
    · obtain ⟨w2, q1, q2⟩ := hs.copyRow g 0 (m := k.length) (cs := c2) rfl (hkr (hs.get 1 rfl)) (bytes_one k) ty (t := ty_sl_uint8) #[false, false] hk0
      have e : putAll (repl ti5.zero 64) 0 ((k.map byte).take k.length) = (rawK k).map byte := by
        rw [List.take_of_length_le (by simp)]
        have q := putAll_app [] (repl ti5.zero 64) (k.map byte) (by rw [repl_reps, reps_len, List.length_map]; omega)
        have q2 : putAll (repl ti5.zero 64) 0 (k.map byte) = k.map byte ++ (repl ti5.zero 64).drop (k.map byte).length := q
        rw [q2, repl_reps, List.length_map]
        unfold rawK reps
        rw [List.map_append, ← List.map_drop, List.drop_replicate]
      rw [e] at q2
      exact ⟨w2, q1, q2⟩
    refine loop_rule (ι := Nat) 0 (fun i => [(1, .c (.v (byte x))), (5, .c (.v (.slice (some ⟨b, 0, none⟩) 64 64))), (17, .c (.v (.int .i64 64))), (18, .c (.v (.int .i64 (i : Int))))]) (fun _ => []) (fun i => [rowF ty_uint8 1 (.slice (some ⟨b, 0, none⟩) 64 64) 64 ((turnN k x i).map byte), browF ty_uint8 A2 k c2, oldF w])
      (fun i => i ≤ 64) (fun i => 64 - i) 0 (Nat.zero_le _) (Ent.same ⟨rfl, rfl, rfl, rfl, trivial⟩ rfl) g ?_
    intro i hi
    refine BIf.dec (fun hlt2 => ?_) (fun hge2 => ?_)
    · have hlt0 : (i : Int) < 64 := hlt2
      have hik : i < (rawK k).length := by rw [rawK_len hk64]; omega
      obtain ⟨y, hy, _⟩ := at_lt hik
      have hat := turnN_at (x := x) hy
      refine ⟨⟨b, 0, none⟩, i, rfl, rfl, by omega, byte y, fun β w' hs => by
        have h : Rd 1 (some ⟨b, 0, none⟩) 64 ((turnN k x i).map byte) w' := row_rd (hs.get 0 rfl)
        exact Rd.cell1 h (by rw [List.getElem?_map, hat]; rfl), _, xor8 y x, ?_⟩
      refine ⟨⟨b, 0, none⟩, i, rfl, rfl, by omega, [rowF ty_uint8 1 (.slice (some ⟨b, 0, none⟩) 64 64) 64 ((turnN k x (i + 1)).map byte), browF ty_uint8 A2 k c2, oldF w], fun β w' hs => ?_, ?_⟩
      · obtain ⟨w2, q1, q2⟩ := hs.rowSet (j := 0) (o := i) (us := [byte (y ^^^ x)]) rfl (by simp only [List.length_singleton]; omega) (fun u hu => by obtain rfl := List.mem_singleton.1 hu; rfl)
        have e : putAll ((turnN k x i).map byte) i [byte (y ^^^ x)] = (turnN k x (i + 1)).map byte := by
          rw [putAll, putAll, putAt_eq, ← turnN_set hy, List.map_set]
        rw [e] at q2
        have q1' : (storeCells ((⟨b, 0, none⟩ : Addr).add (i * 1)) [byte (y ^^^ x)] 0).run (cx_ostiaryref02_turned w (Un [])).P w' = .ok () w2 := by rw [Nat.mul_one]; exact q1
        exact ⟨w2, q1', q2⟩
      · refine ⟨((i + 1 : Nat) : Int), by rw [wrap_i64 (by omega) (by omega)]; rfl, ?_⟩
        exact ⟨i + 1, by omega, by omega, Ent.same ⟨rfl, rfl, rfl, rfl, trivial⟩ rfl⟩
    · have hge0 : ¬ (i : Int) < 64 := hge2
      obtain rfl : i = 64 := by omega
      intro β w' hs
      have hp : padL l x = turnN k x 64 := by rw [turnN_all hk64]; unfold padL; rw [hk]
      refine hs.fin [0] ⟨b, by rw [padL_len]; rfl, ?_⟩
      show [rowF ty_uint8 1 (.slice (some ⟨b, 0, none⟩) 64 64) 64 _] = [rowF ty_uint8 1 (.slice (some ⟨b, 0, none⟩) (padL l x).length 64) (padL l x).length ((padL l x).map byte)]
      rw [padL_len, hp]
  · have hge0 : ¬ (64 : Int) < (l.length : Int) := hge
    obtain ⟨k, hks⟩ : ∃ k, l = k := ⟨_, rfl⟩
    have hk : keyL l = k := by unfold keyL; rw [if_neg (by omega)]; exact hks
    have hk64 : k.length ≤ 64 := by rw [← hk]; exact keyL_len
    have hr' : Bs w A k := by rw [← hks]; exact hr
    have hlk : l.length = k.length := by rw [hks]
    rw [hlk]
    have hkr : ∀ {w'}, (oldF w).p w' → Bs w' A k := fun h => Rd.old hr' h
    refine ⟨64, 64, rfl, rfl, Nat.le_refl _, by decide, by decide, ?_⟩
    intro b
    have hk0 : min k.length 64 = k.length := by omega
    refine ⟨[], [rowF ty_uint8 1 (.slice (some ⟨b, 0, none⟩) 64 64) 64 ((rawK k).map byte), oldF w], .c (.v (.int .i64 (k.length : Int))), fun β w' ty hs => ?_, trivial, ?_⟩
    · obtain ⟨w2, q1, q2⟩ := hs.copyRow g 0 (m := k.length) (cs := c) rfl (hkr (hs.get 1 rfl)) (bytes_one k) ty (t := ty_sl_uint8) #[false, false] hk0
      have e : putAll (repl ti5.zero 64) 0 ((k.map byte).take k.length) = (rawK k).map byte := by
        rw [List.take_of_length_le (by simp)]
        have q := putAll_app [] (repl ti5.zero 64) (k.map byte) (by rw [repl_reps, reps_len, List.length_map]; omega)
        have q2 : putAll (repl ti5.zero 64) 0 (k.map byte) = k.map byte ++ (repl ti5.zero 64).drop (k.map byte).length := q
        rw [q2, repl_reps, List.length_map]
        unfold rawK reps
        rw [List.map_append, ← List.map_drop, List.drop_replicate]
      rw [e] at q2
      exact ⟨w2, q1, q2⟩
    refine loop_rule (ι := Nat) 0 (fun i => [(1, .c (.v (byte x))), (5, .c (.v (.slice (some ⟨b, 0, none⟩) 64 64))), (17, .c (.v (.int .i64 64))), (18, .c (.v (.int .i64 (i : Int))))]) (fun _ => []) (fun i => [rowF ty_uint8 1 (.slice (some ⟨b, 0, none⟩) 64 64) 64 ((turnN k x i).map byte), oldF w])
      (fun i => i ≤ 64) (fun i => 64 - i) 0 (Nat.zero_le _) (Ent.same ⟨rfl, rfl, rfl, rfl, trivial⟩ rfl) g ?_
    intro i hi
    refine BIf.dec (fun hlt2 => ?_) (fun hge2 => ?_)
    · have hlt0 : (i : Int) < 64 := hlt2
      have hik : i < (rawK k).length := by rw [rawK_len hk64]; omega
      obtain ⟨y, hy, _⟩ := at_lt hik
      have hat := turnN_at (x := x) hy
      refine ⟨⟨b, 0, none⟩, i, rfl, rfl, by omega, byte y, fun β w' hs => by
        have h : Rd 1 (some ⟨b, 0, none⟩) 64 ((turnN k x i).map byte) w' := row_rd (hs.get 0 rfl)
        exact Rd.cell1 h (by rw [List.getElem?_map, hat]; rfl), _, xor8 y x, ?_⟩
      refine ⟨⟨b, 0, none⟩, i, rfl, rfl, by omega, [rowF ty_uint8 1 (.slice (some ⟨b, 0, none⟩) 64 64) 64 ((turnN k x (i + 1)).map byte), oldF w], fun β w' hs => ?_, ?_⟩
      · obtain ⟨w2, q1, q2⟩ := hs.rowSet (j := 0) (o := i) (us := [byte (y ^^^ x)]) rfl (by simp only [List.length_singleton]; omega) (fun u hu => by obtain rfl := List.mem_singleton.1 hu; rfl)
        have e : putAll ((turnN k x i).map byte) i [byte (y ^^^ x)] = (turnN k x (i + 1)).map byte := by
          rw [putAll, putAll, putAt_eq, ← turnN_set hy, List.map_set]
        rw [e] at q2
        have q1' : (storeCells ((⟨b, 0, none⟩ : Addr).add (i * 1)) [byte (y ^^^ x)] 0).run (cx_ostiaryref02_turned w (Un [])).P w' = .ok () w2 := by rw [Nat.mul_one]; exact q1
        exact ⟨w2, q1', q2⟩
      · refine ⟨((i + 1 : Nat) : Int), by rw [wrap_i64 (by omega) (by omega)]; rfl, ?_⟩
        exact ⟨i + 1, by omega, by omega, Ent.same ⟨rfl, rfl, rfl, rfl, trivial⟩ rfl⟩
    · have hge0 : ¬ (i : Int) < 64 := hge2
      obtain rfl : i = 64 := by omega
      intro β w' hs
      have hp : padL l x = turnN k x 64 := by rw [turnN_all hk64]; unfold padL; rw [hk]
      refine hs.fin [0] ⟨b, by rw [padL_len]; rfl, ?_⟩
      show [rowF ty_uint8 1 (.slice (some ⟨b, 0, none⟩) 64 64) 64 _] = [rowF ty_uint8 1 (.slice (some ⟨b, 0, none⟩) (padL l x).length 64) (padL l x).length ((padL l x).map byte)]
      rw [padL_len, hp]
end Go.Proofs.YthkjfepbmnabkaaGreatDoor.Sx

/- The reference's sums with a key; a password that is stretched. -/
namespace Go.Proofs.YthkjfepbmnabkaaGreatDoor.Sx
open Go
attribute [local irreducible] Calls

theorem rhsum_c (w : World) (A B : Option Addr) (key text : List UInt8) (c d : Nat) (hr : Bs w A key) (ht : Bs w B text) (hk : key.length ≤ 1000000) (hn : text.length ≤ 1000000) (h1 : (oddF 3).p w) :
    Con Tryz.prog n_ostiaryref02_Sum #[.slice A key.length c, .slice B text.length d] w [] fun v Fs => ∃ A' c', v = .slice A' 32 c' ∧ 32 ≤ c' ∧ c' ≤ maxLen ∧ Fs = [browF ty_uint8 A' (hmL key text) c'] := by
  have g := good_ostiaryref02_Sum w (Un [])
  have hml := maxLen_eq
  refine con_of_sx (cx := cx_ostiaryref02_Sum w (Un [])) g b_ostiaryref02_Sum rfl rfl (β := Va.z) [.c (.v (.slice A key.length c)), .c (.v (.slice B text.length d))] 0 [] [oldF w] rfl rfl (old_sat rfl) ?_
  refine call_con [] (fun β w' hs => rturned_c w' A key c 0x5c (Rd.old hr (hs.get 0 rfl)) hk (Rd.old h1 (hs.get 0 rfl))) ?_
  rintro v Fs ⟨p1, rfl, rfl⟩
  refine call_con [] (fun β w' hs => rturned_c w' A key c 0x36 (Rd.old hr (hs.get 1 rfl)) hk (Rd.old h1 (hs.get 1 rfl))) ?_
  rintro v Fs ⟨p2, rfl, rfl⟩
  have l64 : ∀ x, (padL key x).length = 64 := padL_len key
  have e1 : (padL key 0x36 ++ text).length = 64 + text.length := by rw [List.length_append, l64]
  refine ⟨0, (padL key 0x36).length, (padL key 0x36 ++ text).length, (padL key 0x36).map byte, text.map byte, (padL key 0x36 ++ text).map byte, rfl, fun β w' hs => Rd.old ht (hs.get 2 rfl), bytes_one _, by rw [List.length_append], by rw [List.map_append], by omega, by show (padL key 0x36 ++ text).length * 1 ≤ _; omega, ?_⟩
  intro A1 c1 hc1 hm1 _
  refine call_con [] (fun β w' hs => rsum_c w' A1 (padL key 0x36 ++ text) c1 (row_rd (hs.get 0 rfl)) (Rd.old h1 (hs.get 2 rfl)) (by omega)) ?_
  rintro v Fs ⟨A2, c2, rfl, hc2, hm2, rfl⟩
  obtain ⟨s1, hs1⟩ : ∃ s1, Sha.sum (padL key 0x36 ++ text) = s1 := ⟨_, rfl⟩
  have hs1l : s1.length = 32 := by rw [← hs1]; exact sum_len _
  have hhm : hmL key text = Sha.sum (padL key 0x5c ++ s1) := by unfold hmL; rw [hs1]
  have e2 : (padL key 0x5c ++ s1).length = 96 := by rw [List.length_append, l64, hs1l]
  have e0 : (padL key 0x5c).length + 32 = (padL key 0x5c ++ s1).length := by rw [List.length_append, hs1l]
  refine ⟨2, (padL key 0x5c).length, (padL key 0x5c ++ s1).length, (padL key 0x5c).map byte, s1.map byte, (padL key 0x5c ++ s1).map byte, rfl, fun β w' hs => ?_, bytes_one _, e0, by rw [List.map_append], by omega, by show (padL key 0x5c ++ s1).length * 1 ≤ _; omega, ?_⟩
  · have h : Bs w' A2 (Sha.sum (padL key 0x36 ++ text)) := row_rd (hs.get 0 rfl)
    rw [hs1] at h
    have h' : Rd 1 A2 s1.length (s1.map byte) w' := h
    rw [hs1l] at h'
    exact h'
  intro A3 c3 hc3 hm3 _
  refine call_con [] (fun β w' hs => rsum_c w' A3 (padL key 0x5c ++ s1) c3 (row_rd (hs.get 2 rfl)) (Rd.old h1 (hs.get 3 rfl)) (by omega)) ?_
  rintro v Fs ⟨A4, c4, rfl, h5, h6, rfl⟩
  intro β w' hs
  exact hs.fin [0] ⟨A4, c4, rfl, h5, h6, by rw [hhm]; rfl⟩
end Go.Proofs.YthkjfepbmnabkaaGreatDoor.Sx

/- A sum that grows: the table of its state; new; copied. -/
namespace Go.Proofs.YthkjfepbmnabkaaGreatDoor.Sx
open Go Sha
attribute [local irreducible] Calls

/-! ### plainly -/
/-! ### in memory -/
def ptrB (b : Nat) : Value := .pointer (some ⟨b, 0, none⟩)
end Go.Proofs.YthkjfepbmnabkaaGreatDoor.Sx

/- A sum that grows: written to; its value. -/
namespace Go.Proofs.YthkjfepbmnabkaaGreatDoor.Sx
open Go Sha
attribute [local irreducible] Calls

end Go.Proofs.YthkjfepbmnabkaaGreatDoor.Sx

/- A sum that grows: its value. -/
namespace Go.Proofs.YthkjfepbmnabkaaGreatDoor.Sx
open Go Sha
attribute [local irreducible] Calls

end Go.Proofs.YthkjfepbmnabkaaGreatDoor.Sx

/- A sum with a key that grows. -/
namespace Go.Proofs.YthkjfepbmnabkaaGreatDoor.Sx
open Go
attribute [local irreducible] Calls

/-! ### begun -/
end Go.Proofs.YthkjfepbmnabkaaGreatDoor.Sx

/- One sum of parts, by a Mac that is kept. -/
namespace Go.Proofs.YthkjfepbmnabkaaGreatDoor.Sx
open Go
attribute [local irreducible] Calls

abbrev Part := Option Addr × List UInt8 × Nat
def partV (p : Part) : Value := .slice p.1 p.2.1.length p.2.2
def partsT (ps : List Part) : List UInt8 := ps.flatMap (·.2.1)
/-- Parts, to be read. -/
def partF (P : Option Addr) (ps : List Part) : Fact where
  own := false
  D := fun k => (rdF 1 P ps.length (ps.map partV)).D k ∨ ∃ p ∈ ps, (bsF p.1 p.2.1).D k
  p := fun w => Rd 1 P ps.length (ps.map partV) w ∧ ∀ p ∈ ps, Bs w p.1 p.2.1
  st := fun w w' hs h => ⟨(rdF 1 P ps.length (ps.map partV)).st w w' (fun k hk => hs k (.inl hk)) h.1, fun p hp => (bsF p.1 p.2.1).st w w' (fun k hk => hs k (.inr ⟨p, hp, hk⟩)) (h.2 p hp)⟩
end Go.Proofs.YthkjfepbmnabkaaGreatDoor.Sx

/- The pieces of a password that is stretched: the first. -/
namespace Go.Proofs.YthkjfepbmnabkaaGreatDoor.Sx
open Go
attribute [local irreducible] Calls

section
variable {cx : Cx} {β : Va} {n : Nat} {H : List Bk} {F : List Fact} {w : World}
theorem Sat.subN (h : Sat cx β n H F w) (js : List Nat) (hno : ∀ f ∈ takeIx F js, f.own = false) (g : Fact) (hgo : g.own = false) (hp : g.p w) (hD : ∀ k, g.D k → Un (takeIx F js) k) : Sat cx β n H (g :: F) w := by
  have hin : ∀ k, g.D k → ∃ (i : Nat) (f : Fact), F[i]? = some f ∧ f.own = false ∧ f.D k := fun k hk => by
    obtain ⟨f, hf, hfk⟩ := hD k hk
    obtain ⟨i, _, hi⟩ := takeIx_mem hf
    exact ⟨i, f, hi, hno f hf, hfk⟩
  refine h.old g hp (fun k hk => ?_) (fun b hb q => ?_) (fun q => by rw [hgo] at q; cases q) (fun g' hg' ho k hk hk' => ?_) (fun p hpp q => ?_)
  · obtain ⟨i, f, hi, _, hfk⟩ := hin k hk
    exact h.flt f (List.mem_of_getElem? hi) k hfk
  · obtain ⟨i, f, hi, _, hfk⟩ := hin _ q
    exact h.sepb f (List.mem_of_getElem? hi) b hb hfk
  · have ho' : g'.own = true := ho.resolve_left (by rw [hgo]; decide)
    obtain ⟨i, f, hi, hfo, hfk⟩ := hin k hk
    obtain ⟨j, hj⟩ := List.getElem?_of_mem hg'
    have hne : j ≠ i := fun q => by subst q; rw [hj] at hi; obtain rfl := Option.some.inj hi; rw [hfo] at ho'; cases ho'
    exact h.apart hj hi hne (.inl ho') k hk' hfk
  · obtain ⟨i, f, hi, _, hfk⟩ := hin _ q
    exact (h.pin p hpp).2.2 f (List.mem_of_getElem? hi) hfk
theorem rowD {e size : Nat} {A : Option Addr} {k c : Nat} {xs : List Value} {w : World} (h : (rowF e size (.slice A k c) k xs).p w) : ∀ b, (rdF size A k xs).D b → (rowF e size (.slice A k c) k xs).D b := by
  rintro b ⟨h0, ad, q, rfl⟩
  have hk : 0 < k := Nat.pos_of_ne_zero (fun q => by rw [q, Nat.zero_mul] at h0; exact Nat.lt_irrefl _ h0)
  rcases h.2 with ⟨he, h0⟩ | ⟨g, cap, cur, he, _⟩
  · omega
  · have hA : A = some ⟨g, 0, none⟩ := by injection he
    rw [q] at hA
    obtain rfl := Option.some.inj hA
    show Value.ownBlock (.slice A k c) = _
    rw [q]
    rfl
/-- A row, from now on to be read. -/
theorem Sat.rowRd (h : Sat cx β n H F w) (j : Nat) {e size : Nat} {A : Option Addr} {k c : Nat} {xs : List Value} (hj : nth F j = some (rowF e size (.slice A k c) k xs)) : Sat cx β n H (putAt F j (rdF size A k xs)) w := by
  have hp := h.get j hj
  exact h.upd hj rfl (Chg.refl _ _) (row_rd hp) (fun b hb => .inl (rowD hp b hb))
/-- Parts that lie about, as one. -/
theorem Sat.part1 {P A : Option Addr} {l : List UInt8} {c : Nat} (h : Sat cx β n H F w) (js : List Nat) (hj : takeIx F js = [rdF 1 P 1 [.slice A l.length c], bsF A l]) : Sat cx β n H (partF P [(A, l, c)] :: F) w := by
  have hP : Rd 1 P 1 [.slice A l.length c] w := h.fact _ (by
    have : rdF 1 P 1 [.slice A l.length c] ∈ takeIx F js := by rw [hj]; simp
    obtain ⟨i, _, hi⟩ := takeIx_mem this
    exact List.mem_of_getElem? hi)
  have hA : Bs w A l := h.fact (bsF A l) (by
    have : bsF A l ∈ takeIx F js := by rw [hj]; simp
    obtain ⟨i, _, hi⟩ := takeIx_mem this
    exact List.mem_of_getElem? hi)
  refine h.subN js (fun f hf => ?_) _ rfl ⟨hP, fun p hp => ?_⟩ (fun k hk => ?_)
  · rw [hj] at hf
    simp only [List.mem_cons, List.not_mem_nil, or_false] at hf
    rcases hf with rfl | rfl <;> rfl
  · obtain rfl := List.mem_singleton.1 hp; exact hA
  · rw [hj]
    rcases hk with hk | ⟨p, hp, hk⟩
    · exact ⟨_, List.mem_cons_self, hk⟩
    · obtain rfl := List.mem_singleton.1 hp
      exact ⟨_, List.mem_cons_of_mem _ List.mem_cons_self, hk⟩
end
end Go.Proofs.YthkjfepbmnabkaaGreatDoor.Sx

/- A password's key, of 32 bytes. -/
namespace Go.Proofs.YthkjfepbmnabkaaGreatDoor.Sx
open Go
attribute [local irreducible] Calls

end Go.Proofs.YthkjfepbmnabkaaGreatDoor.Sx

/- Two sums, turned. -/
namespace Go.Proofs.YthkjfepbmnabkaaGreatDoor.Sx
open Go
attribute [local irreducible] Calls

/-- What stands in one list and not in the other. -/
def notIn (l m : List Nat) : List Nat := l.filter fun x => !decide (x ∈ m)
theorem notIn_len (l m : List Nat) : (notIn l m).length ≤ l.length := List.length_filter_le _ _
theorem notIn_snoc {l : List Nat} {k x : Nat} (m : List Nat) (h : l[k]? = some x) : notIn (l.take (k + 1)) m = notIn (l.take k) m ++ (if x ∈ m then [] else [x]) := by
  unfold notIn
  rw [List.take_add_one, h, List.filter_append]
  congr 1
  by_cases hx : x ∈ m <;> simp [hx]
structure TuS where
  k : Nat
  A : Option Addr
  c : Nat
def sumS (A1 : Option Addr) (l : List Nat) (c1 : Nat) (A2 : Option Addr) (m : List UInt8) (c2 : Nat) : List SL := [.v (.slice A1 l.length c1), .v (.slice A2 m.length c2)]
theorem turned_c (w : World) (A1 A2 B1 B2 : Option Addr) (l1 l2 : List Nat) (m1 m2 : List UInt8) (c1 c2 d1 d2 : Nat) (hl1 : Rd 1 A1 l1.length (ints l1) w) (hl2 : Rd 1 B1 l2.length (ints l2) w) (hm1 : Bs w A2 m1) (hm2 : Bs w B2 m2)
    (hn1 : l1.length ≤ 1000000) (hn2 : l2.length ≤ 1000000) (hk1 : m1.length ≤ 1000000) :
    Con Tryz.prog n_box_turned #[sumV A1 l1 c1 A2 m1 c2, sumV B1 l2 d1 B2 m2 d2] w [] fun v Fs => ∃ A c B d, v = sumV A (sortN (notIn l1 l2 ++ notIn l2 l1)) c B (Bx.xorB m1 m2) d ∧ (Bx.xorB m1 m2).length ≤ d ∧ d ≤ maxLen ∧ (∀ x ∈ sortN (notIn l1 l2 ++ notIn l2 l1), ∃ ad, A = some ad) ∧ Fs = [irowF A (sortN (notIn l1 l2 ++ notIn l2 l1)) c, browF ty_uint8 B (Bx.xorB m1 m2) d] := by
  have g := good_box_turned w (Un [])
  refine con_of_sx (cx := cx_box_turned w (Un [])) g b_box_turned rfl rfl (β := Va.z) [.agg (sumS A1 l1 c1 A2 m1 c2), .agg (sumS B1 l2 d1 B2 m2 d2)] 0 [] [oldF w] rfl rfl (old_sat rfl) ?_
  refine call_con [] (fun β w' hs => xor_c w' A2 B2 m1 m2 c2 d2 (Rd.old hm1 (hs.get 0 rfl)) (Rd.old hm2 (hs.get 0 rfl)) (by omega)) ?_
  rintro v Fs ⟨B, d, rfl, hd, hdm, rfl⟩
  refine loop_rule (ι := TuS) 4 (fun i => [(17, .c (.v (.slice A1 l1.length c1))), (18, .c (.v (.int .i64 l1.length))), (19, .c (.v (.int .i64 i.k))), (2, .c (.p 0 0)), (3, .c (.p 1 0)), (4, .c (.p 2 0)), (5, .c (.p 3 0))])
    (fun i => [⟨3, ty_box_sum, sumS i.A (notIn (l1.take i.k) l2) i.c B (Bx.xorB m1 m2) d⟩, ⟨2, ty_box_sum, ti142.zero.map SL.v⟩, ⟨1, ty_box_sum, sumS B1 l2 d1 B2 m2 d2⟩, ⟨0, ty_box_sum, sumS A1 l1 c1 A2 m1 c2⟩])
    (fun i => [irowF i.A (notIn (l1.take i.k) l2) i.c, browF ty_uint8 B (Bx.xorB m1 m2) d, oldF w]) (fun i => i.k ≤ l1.length) (fun i => l1.length - i.k) ⟨0, none, 0⟩ (Nat.zero_le _) (Ent.mk' ⟨rfl, rfl, rfl, rfl, rfl, rfl, rfl, trivial⟩ rfl (fun β w hs => hs.nilRow ty_int 1)) g ?_
  rintro ⟨k, A, c⟩ hk
  simp only at hk
  have ha := notIn_len (l1.take k) l2
  have hat : (l1.take k).length ≤ l1.length := by simp; omega
  refine BIf.dec (fun hlt => ?_) (fun hge => ?_)
  · have hlt0 : (k : Int) < l1.length := hlt
    have hkl : k < l1.length := by omega
    obtain ⟨x, hx, hxm⟩ := at_lt hkl
    obtain ⟨ad, hA, _⟩ := hl1.2 (by omega)
    refine ⟨ad, k, hA, rfl, hkl, _, fun β w' hs => Rd.cell1 (by have h := Rd.old hl1 (hs.get 2 rfl); rw [hA] at h; exact h) (ints_at hx), ?_⟩
    refine call_pu (fun β w' hs => containsI_c w' B1 l2 d1 x (Rd.old hl2 (hs.get 2 rfl)) (by omega)) ?_
    have hsn := notIn_snoc l2 hx
    refine BIf.not (BIf.dec (fun hin => ?_) (fun hin => ?_))
    · refine ⟨((k + 1 : Nat) : Int), by rw [wrap_i64 (by omega) (by omega)]; rfl, ?_⟩
      rw [if_pos hin, List.append_nil] at hsn
      refine ⟨⟨k + 1, A, c⟩, hkl, by show l1.length - (k + 1) < l1.length - k; omega, ?_⟩
      simp only [hsn]
      exact Ent.same ⟨rfl, rfl, rfl, rfl, rfl, rfl, rfl, trivial⟩ rfl
    · rw [if_neg hin] at hsn
      intro b2
      refine ⟨1, (notIn (l1.take k) l2).length, (notIn (l1.take k) l2).length + 1, ints (notIn (l1.take k) l2), ints [x], ints (notIn (l1.take k) l2 ++ [x]), rfl, fun β w hs => row_rd (hs.get 0 rfl), ints_one _, rfl, by simp [ints], by rw [maxLen_eq]; omega, by show ((notIn (l1.take k) l2).length + 1) * 8 ≤ _; omega, ?_⟩
      intro A' c' q1 q2 _
      refine ⟨((k + 1 : Nat) : Int), by rw [wrap_i64 (by omega) (by omega)]; rfl, ?_⟩
      refine ⟨⟨k + 1, A', c'⟩, hkl, by show l1.length - (k + 1) < l1.length - k; omega, ?_⟩
      simp only [hsn]
      refine Ent.mk' ⟨rfl, rfl, rfl, rfl, rfl, rfl, rfl, trivial⟩ rfl (fun β w' hs => ?_)
      simp only [irowF, sumS, List.length_append, List.length_cons, List.length_nil]
      exact hs.weaken (List.Sublist.refl _) (List.sublist_cons_self _ _)
  · have hge0 : ¬ (k : Int) < l1.length := hge
    obtain rfl : k = l1.length := by omega
    rw [List.take_length]
    refine loop_rule (ι := TuS) 4 (fun i => [(36, .c (.v (.slice B1 l2.length d1))), (37, .c (.v (.int .i64 l2.length))), (38, .c (.v (.int .i64 i.k))), (2, .c (.p 0 0)), (3, .c (.p 1 0)), (4, .c (.p 2 0)), (5, .c (.p 3 0))])
      (fun i => [⟨3, ty_box_sum, sumS i.A (notIn l1 l2 ++ notIn (l2.take i.k) l1) i.c B (Bx.xorB m1 m2) d⟩, ⟨2, ty_box_sum, ti142.zero.map SL.v⟩, ⟨1, ty_box_sum, sumS B1 l2 d1 B2 m2 d2⟩, ⟨0, ty_box_sum, sumS A1 l1 c1 A2 m1 c2⟩])
      (fun i => [irowF i.A (notIn l1 l2 ++ notIn (l2.take i.k) l1) i.c, browF ty_uint8 B (Bx.xorB m1 m2) d, oldF w]) (fun i => i.k ≤ l2.length) (fun i => l2.length - i.k) ⟨0, A, c⟩ (Nat.zero_le _) (by
        simp only [List.take_zero, notIn, List.filter_nil, List.append_nil]
        exact Ent.same ⟨rfl, rfl, rfl, rfl, rfl, rfl, rfl, trivial⟩ rfl) g ?_
    clear hk ha hat hge hge0
    rintro ⟨k, A, c⟩ hk
    simp only at hk
    have ha := notIn_len l1 l2
    have ha2 := notIn_len (l2.take k) l1
    have hat : (l2.take k).length ≤ l2.length := by simp; omega
    refine BIf.dec (fun hlt => ?_) (fun hge => ?_)
    · have hlt0 : (k : Int) < l2.length := hlt
      have hkl : k < l2.length := by omega
      obtain ⟨x, hx, hxm⟩ := at_lt hkl
      obtain ⟨ad, hA, _⟩ := hl2.2 (by omega)
      refine ⟨ad, k, hA, rfl, hkl, _, fun β w' hs => Rd.cell1 (by have h := Rd.old hl2 (hs.get 2 rfl); rw [hA] at h; exact h) (ints_at hx), ?_⟩
      refine call_pu (fun β w' hs => containsI_c w' A1 l1 c1 x (Rd.old hl1 (hs.get 2 rfl)) (by omega)) ?_
      have hsn := notIn_snoc l1 hx
      refine BIf.not (BIf.dec (fun hin => ?_) (fun hin => ?_))
      · refine ⟨((k + 1 : Nat) : Int), by rw [wrap_i64 (by omega) (by omega)]; rfl, ?_⟩
        rw [if_pos hin, List.append_nil] at hsn
        refine ⟨⟨k + 1, A, c⟩, hkl, by show l2.length - (k + 1) < l2.length - k; omega, ?_⟩
        simp only [hsn]
        exact Ent.same ⟨rfl, rfl, rfl, rfl, rfl, rfl, rfl, trivial⟩ rfl
      · rw [if_neg hin] at hsn
        intro b2
        have hal : (notIn l1 l2 ++ notIn (l2.take k) l1).length ≤ 2000000 := by rw [List.length_append]; omega
        refine ⟨1, (notIn l1 l2 ++ notIn (l2.take k) l1).length, (notIn l1 l2 ++ notIn (l2.take k) l1).length + 1, ints (notIn l1 l2 ++ notIn (l2.take k) l1), ints [x], ints (notIn l1 l2 ++ notIn (l2.take k) l1 ++ [x]), rfl, fun β w hs => row_rd (hs.get 0 rfl), ints_one _, rfl, by simp [ints], by rw [maxLen_eq]; omega, by show ((notIn l1 l2 ++ notIn (l2.take k) l1).length + 1) * 8 ≤ _; omega, ?_⟩
        intro A' c' q1 q2 _
        refine ⟨((k + 1 : Nat) : Int), by rw [wrap_i64 (by omega) (by omega)]; rfl, ?_⟩
        refine ⟨⟨k + 1, A', c'⟩, hkl, by show l2.length - (k + 1) < l2.length - k; omega, ?_⟩
        simp only [hsn]
        refine Ent.mk' ⟨rfl, rfl, rfl, rfl, rfl, rfl, rfl, trivial⟩ rfl (fun β w' hs => ?_)
        have e : (notIn l1 l2 ++ (notIn (l2.take k) l1 ++ [x])) = notIn l1 l2 ++ notIn (l2.take k) l1 ++ [x] := (List.append_assoc _ _ _).symm
        have e2 : (notIn l1 l2 ++ notIn (l2.take k) l1 ++ [x]).length = (notIn l1 l2 ++ notIn (l2.take k) l1).length + 1 := by rw [List.length_append (bs := [x])]; rfl
        rw [e]
        simp only [irowF, sumS, e2]
        exact hs.weaken (List.Sublist.refl _) (List.sublist_cons_self _ _)
    · have hge0 : ¬ (k : Int) < l2.length := hge
      obtain rfl : k = l2.length := by omega
      rw [List.take_length]
      have ha3 := notIn_len l2 l1
      refine call_con [0] (fun β w' hs => sort_c w' A (notIn l1 l2 ++ notIn l2 l1) c (hs.mem.take (js := [0]) rfl) (by rw [List.length_append]; omega)) ?_
      rintro v Fs ⟨rfl, rfl⟩
      intro β w' hs
      refine (hs.keepB (List.nil_sublist _)).fin [0, 1] ⟨A, c, B, d, ?_, hd, hdm, fun x hx => ?_, rfl⟩
      · unfold sumV
        rw [sortN_len]
        rfl
      · obtain ⟨ad, h, _⟩ := (row_rd (hs.get 0 rfl)).2 (by have := List.length_pos_of_mem hx; omega)
        exact ⟨ad, h⟩
end Go.Proofs.YthkjfepbmnabkaaGreatDoor.Sx

/- Two tags, turned. -/
namespace Go.Proofs.YthkjfepbmnabkaaGreatDoor.Sx
open Go
attribute [local irreducible] Calls

/-- What a sum of the box's must be. -/
structure OkS (l : List Nat) (m : List UInt8) : Prop where
  len : l.length ≤ 4096
  nums : ∀ n ∈ l, n ≤ 4096
  mask : m.length = 32
def mixL (l1 l2 : List Nat) : List Nat := sortN (notIn l1 l2 ++ notIn l2 l1)
def turnT (L : List Nat) (M : List UInt8) : Bx.Term := ⟨4, [], [], 0, L, M⟩
open Classical in
/-- Two tags' turning; none: the box doesn't know them. -/
noncomputable def turnB (B : Bx.Box) (s t : List UInt8) : Option (List UInt8) × Bx.Box := match B.opens s, B.opens t with
  | some (l1, m1), some (l2, m2) =>
    if mixL l1 l2 = [] ∧ ¬ (B.sym = true ∧ (Bx.xorB m1 m2).take 28 = Bx.front) then (some (Bx.xorB m1 m2), B)
    else match mixL l1 l2, decide (Bx.xorB m1 m2 = Bx.noughts) with
      | [n], true => (some (Bx.handle n), B)
      | L, _ => (some (B.tag (turnT L (Bx.xorB m1 m2))).1, (B.tag (turnT L (Bx.xorB m1 m2))).2)
  | _, _ => (none, B)
theorem turnB_none1 {B : Bx.Box} {s t : List UInt8} (h : B.opens s = none) : turnB B s t = (none, B) := by unfold turnB; rw [h]
theorem turnB_none2 {B : Bx.Box} {s t : List UInt8} (h : B.opens t = none) : turnB B s t = (none, B) := by unfold turnB; rw [h]; cases B.opens s <;> rfl
theorem turnB_raw {B : Bx.Box} {s t : List UInt8} {l1 l2 : List Nat} {m1 m2 : List UInt8} (h1 : B.opens s = some (l1, m1)) (h2 : B.opens t = some (l2, m2)) (hL : mixL l1 l2 = []) (hs : ¬ (B.sym = true ∧ (Bx.xorB m1 m2).take 28 = Bx.front)) : turnB B s t = (some (Bx.xorB m1 m2), B) := by
  unfold turnB; rw [h1, h2]; simp only; rw [if_pos ⟨hL, hs⟩]
theorem turnB_one {B : Bx.Box} {s t : List UInt8} {l1 l2 : List Nat} {m1 m2 : List UInt8} {n : Nat} (h1 : B.opens s = some (l1, m1)) (h2 : B.opens t = some (l2, m2)) (hL : mixL l1 l2 = [n]) (hM : Bx.xorB m1 m2 = Bx.noughts) : turnB B s t = (some (Bx.handle n), B) := by
  unfold turnB; rw [h1, h2]; simp only; rw [if_neg (fun q => by rw [hL] at q; cases q.1), hL, decide_eq_true hM]
theorem turnB_tag {B : Bx.Box} {s t : List UInt8} {l1 l2 : List Nat} {m1 m2 : List UInt8} (h1 : B.opens s = some (l1, m1)) (h2 : B.opens t = some (l2, m2)) (hs : ¬ (mixL l1 l2 = [] ∧ ¬ (B.sym = true ∧ (Bx.xorB m1 m2).take 28 = Bx.front))) (hn : ¬ ((mixL l1 l2).length = 1 ∧ Bx.xorB m1 m2 = Bx.noughts)) :
    turnB B s t = (some (B.tag (turnT (mixL l1 l2) (Bx.xorB m1 m2))).1, (B.tag (turnT (mixL l1 l2) (Bx.xorB m1 m2))).2) := by
  unfold turnB; rw [h1, h2]; simp only; rw [if_neg hs]
  split
  · rename_i n h3 h4
    exact absurd ⟨by rw [h3]; rfl, of_decide_eq_true h4⟩ hn
  · rfl
def turnOut (b : Nat) (B : Bx.Box) (y : Lay) (s t : List UInt8) (v : Value) (Fs : List Fact) : Prop := match turnB B s t with
  | (none, _) => v = .tuple #[.slice none 0 0, .int .i64 4] ∧ Fs = [bxF b B y]
  | (some h, B') => ∃ A c y', v = .tuple #[.slice A 32 c, .int .i64 0] ∧ 32 ≤ c ∧ c ≤ maxLen ∧ y'.ts.map (·.1) = B'.L ∧ Fs = [browF ty_uint8 A h c, bxF b B' y']
theorem turnOut_none {b : Nat} {B : Bx.Box} {y : Lay} {s t : List UInt8} (h : turnB B s t = (none, B)) : turnOut b B y s t = fun v Fs => v = .tuple #[.slice none 0 0, .int .i64 4] ∧ Fs = [bxF b B y] := by funext v Fs; unfold turnOut; rw [h]
theorem turnOut_some {b : Nat} {B B' : Bx.Box} {y : Lay} {s t h : List UInt8} (e : turnB B s t = (some h, B')) : turnOut b B y s t = fun v Fs => ∃ A c y', v = .tuple #[.slice A 32 c, .int .i64 0] ∧ 32 ≤ c ∧ c ≤ maxLen ∧ y'.ts.map (·.1) = B'.L ∧ Fs = [browF ty_uint8 A h c, bxF b B' y'] := by funext v Fs; unfold turnOut; rw [e]
theorem turnB_c (w : World) (b : Nat) (B : Bx.Box) (y : Lay) (A1 A2 : Option Addr) (s t : List UInt8) (c1 c2 : Nat) (hts : y.ts.map (·.1) = B.L) (hL : B.L.length ≤ 4096) (hsz : ∀ t ∈ B.L, TSz t) (hok : ∀ tag l m, B.opens tag = some (l, m) → OkS l m)
    (hm : Mem w [bxF b B y, bsF A1 s, bsF A2 t]) (hc1 : s.length ≤ c1) (hc2 : t.length ≤ c2) (hl1 : s.length ≤ 1000000) (hl2 : t.length ≤ 1000000) :
    Con Tryz.prog n_box_Box_Turn #[.pointer (some ⟨b, 0, none⟩), .slice A1 s.length c1, .slice A2 t.length c2] w [bxF b B y] (turnOut b B y s t) := by
  have g := good_box_Box_Turn w (Un [bxF b B y])
  have hs0 : Sat (cx_box_Box_Turn w (Un [bxF b B y])) Va.z 0 [] [bxF b B y, bsF A1 s, bsF A2 t] w := hm.sat0 rfl (fun f hf ho k hk => by
    simp only [List.mem_cons, List.not_mem_nil, or_false] at hf
    rcases hf with rfl | rfl | rfl
    · exact ⟨_, List.mem_singleton.2 rfl, hk⟩
    · cases ho
    · cases ho)
  refine con_of_sx (cx := cx_box_Box_Turn w (Un [bxF b B y])) g b_box_Box_Turn rfl rfl (β := Va.z) [.c (.v (.pointer (some ⟨b, 0, none⟩))), .c (.v (.slice A1 s.length c1)), .c (.v (.slice A2 t.length c2))] 0 [] _ rfl rfl hs0 ?_
  have bad : turnB B s t = (none, B) → ∀ {n : Nat} {H : List Bk} {F : List Fact} (j : Nat) (_ : nth F j = some (bxF b B y)) (β : Va) (w' : World), Sat (cx_box_Box_Turn w (Un [bxF b B y])) β n H F w' → Fin w [bxF b B y] (turnOut b B y s t) (.tuple #[.slice none 0 0, .int .i64 4]) w' := by
    intro hno n H F j hj β w' hs
    rw [turnOut_none hno]
    have hs2 := (hs.keepB (List.nil_sublist _)).perm [j]
    have e : takeIx F [j] = [bxF b B y] := by simp only [takeIx, hj]
    rw [e] at hs2
    exact hs2.fin [0] ⟨rfl, rfl⟩
  refine call_con [] (R := openOut B s) (fun β w' hs => open_c w' b B y A1 s c1 hts hL hsz (hs.get 0 rfl) (fun k hk => hs.flt _ (List.mem_of_getElem? (i := 0) rfl) k hk) (hs.get 1 rfl) hc1 hl1) ?_
  cases h1 : B.opens s with
  | none =>
    rw [openOut_none h1]
    rintro v Fs ⟨rfl, rfl⟩
    refine call_con [] (R := openOut B t) (fun β w' hs => open_c w' b B y A2 t c2 hts hL hsz (hs.get 0 rfl) (fun k hk => hs.flt _ (List.mem_of_getElem? (i := 0) rfl) k hk) (hs.get 2 rfl) hc2 hl2) ?_
    cases h2 : B.opens t with
    | none =>
      rw [openOut_none h2]
      rintro v Fs ⟨rfl, rfl⟩
      exact fun β w' hs => bad (turnB_none1 h1) 0 rfl β w' hs
    | some q =>
      obtain ⟨l2, m2⟩ := q
      rw [openOut_some h2]
      rintro v Fs ⟨B1, d1, B2, d2, rfl, _, rfl⟩
      exact fun β w' hs => bad (turnB_none1 h1) 2 rfl β w' hs
  | some p =>
    obtain ⟨l1, m1⟩ := p
    have ok1 := hok s l1 m1 h1
    rw [openOut_some h1]
    rintro v Fs ⟨a1, e1, a2, e2, rfl, he2, rfl⟩
    refine call_con [] (R := openOut B t) (fun β w' hs => open_c w' b B y A2 t c2 hts hL hsz (hs.get 2 rfl) (fun k hk => hs.flt _ (List.mem_of_getElem? (i := 2) rfl) k hk) (hs.get 4 rfl) hc2 hl2) ?_
    cases h2 : B.opens t with
    | none =>
      rw [openOut_none h2]
      rintro v Fs ⟨rfl, rfl⟩
      exact fun β w' hs => bad (turnB_none2 h2) 2 rfl β w' hs
    | some q =>
      obtain ⟨l2, m2⟩ := q
      have ok2 := hok t l2 m2 h2
      rw [openOut_some h2]
      rintro v Fs ⟨d1, f1, d2, f2, rfl, hf2, rfl⟩
      have hk1 := ok1.len
      have hk2 := ok2.len
      have hk3 := ok1.mask
      have hk4 := ok2.mask
      have hx : (Bx.xorB m1 m2).length = 32 := by rw [xorB_len]; omega
      have hmem : ∀ n ∈ mixL l1 l2, n ≤ 4096 := fun n hn => by
        have h3 : n ∈ notIn l1 l2 ++ notIn l2 l1 := by simpa [mixL, sortN] using hn
        rcases List.mem_append.1 h3 with q | q
        · exact ok1.nums n (List.mem_filter.1 q).1
        · exact ok2.nums n (List.mem_filter.1 q).1
      have hlen : (mixL l1 l2).length ≤ 8192 := by
        have h3 := notIn_len l1 l2
        have h4 := notIn_len l2 l1
        rw [mixL, sortN_len, List.length_append]
        omega
      have hR := turnB_raw (B := B) h1 h2
      have hO := fun n => turnB_one (B := B) (n := n) h1 h2
      have hT := turnB_tag (B := B) h1 h2
      have htc := fun (w' : World) (q1 : Rd 1 a1 l1.length (ints l1) w') (q2 : Rd 1 d1 l2.length (ints l2) w') (q3 : Bs w' a2 m1) (q4 : Bs w' d2 m2) => turned_c w' a1 a2 d1 d2 l1 l2 m1 m2 e1 e2 f1 f2 q1 q2 q3 q4 (by omega) (by omega) (by omega)
      rw [show sortN (notIn l1 l2 ++ notIn l2 l1) = mixL l1 l2 from rfl] at htc
      generalize mixL l1 l2 = L at *
      generalize Bx.xorB m1 m2 = M at *
      refine call_con [] (fun β w' hs => htc w' (row_rd (hs.get 2 rfl)) (row_rd (hs.get 0 rfl)) (row_rd (hs.get 3 rfl)) (row_rd (hs.get 1 rfl))) ?_
      rintro v Fs ⟨u1, g1, u2, g2, rfl, hg2, hgm, hsm, rfl⟩
      have hg2' : 32 ≤ g2 := by omega
      have hTs : TSz (turnT L M) := ⟨by show 4 < 1000; decide, by show 0 < 1000; decide, Nat.zero_le _, Nat.zero_le _, by show L.length ≤ 10000; omega, fun n hn => by have := hmem n hn; omega, by show M.length ≤ 1000000; omega⟩
      have trdD : ∀ k, (trdF (turnT L M) ⟨none, none, u1, u2, 0, 0, g1, g2⟩).D k → ∃ f ∈ [irowF u1 L g1, browF ty_uint8 u2 M g2], f.D k := by
        intro k hk
        rcases hk with ⟨q, _⟩ | ⟨q, _⟩ | ⟨_, ad, hA, rfl⟩ | ⟨_, ad, hA, rfl⟩
        · exact absurd q (Nat.lt_irrefl 0)
        · exact absurd q (Nat.lt_irrefl 0)
        · have hA' : u1 = some ad := hA
          subst hA'
          exact ⟨_, List.mem_cons_self, rfl⟩
        · have hA' : u2 = some ad := hA
          subst hA'
          exact ⟨_, List.mem_cons_of_mem _ List.mem_cons_self, rfl⟩
      have hSS : ∀ {n : Nat} {F : List Fact} {bb aa : Bk}, Sub (cx_box_Box_Turn w (Un [bxF b B y])) n [⟨2, ty_box_sum, sumS u1 L g1 u2 M g2⟩, bb, aa] F [⟨2, ty_box_sum, sumS u1 L g1 u2 M g2⟩] [] := fun {n F bb aa} => Sub.of ((List.nil_sublist _).cons_cons _) (List.nil_sublist _)
      refine draw_rule g p_box_Box_Turn_8 (by kernel_rfl) [⟨2, ty_box_sum, sumS u1 L g1 u2 M g2⟩] [] hSS ?_
      refine ⟨32, 32, rfl, rfl, Nat.le_refl _, by decide, by decide, ?_⟩
      intro b1
      refine ⟨hSS, ?_⟩
      refine call_pu (v := .bool (decide (M = Bx.noughts))) (fun β w' hs => beq_c w' u2 (some ⟨b1, 0, none⟩) M Bx.noughts g2 32 (row_rd (hs.get 2 rfl)) (row_rd (hs.get 0 rfl))) ?_
      refine ⟨hSS, ?_⟩
      have hSB : ∀ {n : Nat} {F : List Fact} {bb aa : Bk} (js : List Nat), takeIx F js = [bxF b B y] → nodupB js = true → Sub (cx_box_Box_Turn w (Un [bxF b B y])) n [⟨2, ty_box_sum, sumS u1 L g1 u2 M g2⟩, bb, aa] F [⟨2, ty_box_sum, sumS u1 L g1 u2 M g2⟩] [bxF b B y] := fun js h hn β w' hs => h ▸ (hs.weaken ((List.nil_sublist _).cons_cons _) (List.Sublist.refl _)).perm js hn
      cases L with
      | nil =>
        cases hsym : B.sym with
        | false =>
          refine draw_rule g p_box_Box_Turn_9 (by kernel_rfl) [⟨2, ty_box_sum, sumS u1 [] g1 u2 M g2⟩] [bxF b B y] (hSB [7] rfl rfl) ?_
          refine ⟨.bool false, fun β w' hs => box_cell (bx_bk (hs.get 0 rfl)) (o := 0) (by simp [boxCells, hsym]), ?_⟩
          refine ⟨hSB [7] rfl rfl, hSB [7] rfl rfl, ?_⟩
          intro β w' hs
          rw [turnOut_some (hR rfl (fun q => by rw [hsym] at q; cases q.1))]
          exact (hs.keepB (List.nil_sublist _)).fin [2, 7] ⟨u2, g2, y, congrArg (fun n => Value.tuple #[.slice u2 n g2, .int .i64 0]) hx, hg2', hgm, hts, rfl⟩
        | true =>
          refine draw_rule g p_box_Box_Turn_9 (by kernel_rfl) [⟨2, ty_box_sum, sumS u1 [] g1 u2 M g2⟩] [bxF b B y] (hSB [7] rfl rfl) ?_
          refine ⟨.bool true, fun β w' hs => box_cell (bx_bk (hs.get 0 rfl)) (o := 0) (by simp [boxCells, hsym]), ?_⟩
          refine ⟨g2, 28, 0, 28, g2, _, rfl, rfl, rfl, by omega, by omega, Nat.zero_le _, rfl, rfl, rfl, ?_⟩
          refine call_con [] (fun β w' hs => mark_c w') ?_
          rintro v Fs ⟨b2, rfl, rfl⟩
          refine ⟨hSB [8] rfl rfl, ?_⟩
          have e28 : (M.take 28).length = 28 := by simp; omega
          refine call_pu (v := .bool (decide (M.take 28 = Bx.front))) (fun β w' hs => by
            have h := beq_c w' (cutA u2 g2 0 1) (some ⟨b2, 0, none⟩) (M.take 28) Bx.front g2 28 (Bs.cutB (row_rd (hs.get 3 rfl)) (by omega) (Nat.zero_le 28) (by omega) (by simp)) (row_rd (hs.get 0 rfl))
            rw [e28] at h
            exact h) ?_
          refine ⟨hSB [8] rfl rfl, ?_⟩
          refine BIf.not (BIf.dec (fun hf => ?_) (fun hf => ?_))
          · skip
            refine call_con [8] (R := tagOut b B (turnT [] M)) (fun β w' hs => by
              have h2 := hs.fuse [2, 3] (trdF (turnT [] M) ⟨none, none, u1, u2, 0, 0, g1, g2⟩) (fun w hm => ⟨Bs.nil w none, Bs.nil w none, row_rd (hm.fact _ List.mem_cons_self), row_rd (hm.fact _ (List.mem_cons_of_mem _ List.mem_cons_self))⟩) trdD rfl ⟨rfl, rfl, trivial⟩
              exact tag_c w' b B y (turnT [] M) ⟨none, none, u1, u2, 0, 0, g1, g2⟩ hts hL hTs (h2.mem.take (js := [7, 0]) rfl)) ?_
            rintro v Fs ⟨A3, c3, y3, rfl, r1, r2, r3, rfl⟩
            intro β w' hs
            rw [turnOut_some (hT (fun q => q.2 ⟨hsym, hf⟩) (fun q => by cases q.1))]
            exact (hs.keepB (List.nil_sublist _)).fin [0, 1] ⟨A3, c3, y3, rfl, r1, r2, r3, rfl⟩
          · skip
            intro β w' hs
            rw [turnOut_some (hR rfl (fun q => hf q.2))]
            exact (hs.keepB (List.nil_sublist _)).fin [3, 8] ⟨u2, g2, y, congrArg (fun n => Value.tuple #[.slice u2 n g2, .int .i64 0]) hx, hg2', hgm, hts, rfl⟩
      | cons n r =>
        refine draw_rule g p_box_Box_Turn_9 (by kernel_rfl) [⟨2, ty_box_sum, sumS u1 (n :: r) g1 u2 M g2⟩] [bxF b B y] (hSB [7] rfl rfl) ?_
        refine ⟨hSB [7] rfl rfl, hSB [7] rfl rfl, ?_⟩
        cases r with
        | nil =>
          refine BIf.dec (fun hz => ?_) (fun hz => ?_)
          · obtain ⟨ad, rfl⟩ : ∃ ad, u1 = some ad := hsm n List.mem_cons_self
            refine ⟨ad, 0, rfl, rfl, Nat.lt_succ_self 0, _, fun β w' hs => Rd.cell1 (row_rd (hs.get 1 rfl)) rfl, ?_⟩
            refine call_con [] (fun β w' hs => handle_c w' n) ?_
            rintro v Fs ⟨A3, c3, rfl, q1, q2, rfl⟩
            intro β w' hs
            rw [turnOut_some (hO n rfl hz)]
            exact (hs.keepB (List.nil_sublist _)).fin [0, 8] ⟨A3, c3, y, rfl, q1, q2, hts, rfl⟩
          · skip
            refine call_con [7] (R := tagOut b B (turnT [n] M)) (fun β w' hs => by
              have h2 := hs.fuse [1, 2] (trdF (turnT [n] M) ⟨none, none, u1, u2, 0, 0, g1, g2⟩) (fun w hm => ⟨Bs.nil w none, Bs.nil w none, row_rd (hm.fact _ List.mem_cons_self), row_rd (hm.fact _ (List.mem_cons_of_mem _ List.mem_cons_self))⟩) trdD rfl ⟨rfl, rfl, trivial⟩
              exact tag_c w' b B y (turnT [n] M) ⟨none, none, u1, u2, 0, 0, g1, g2⟩ hts hL hTs (h2.mem.take (js := [6, 0]) rfl)) ?_
            rintro v Fs ⟨A3, c3, y3, rfl, r1, r2, r3, rfl⟩
            intro β w' hs
            rw [turnOut_some (hT (fun q => by cases q.1) (fun q => hz q.2))]
            exact (hs.keepB (List.nil_sublist _)).fin [0, 1] ⟨A3, c3, y3, rfl, r1, r2, r3, rfl⟩
        | cons n2 r2 =>
          refine call_con [7] (R := tagOut b B (turnT (n :: n2 :: r2) M)) (fun β w' hs => by
            have h2 := hs.fuse [1, 2] (trdF (turnT (n :: n2 :: r2) M) ⟨none, none, u1, u2, 0, 0, g1, g2⟩) (fun w hm => ⟨Bs.nil w none, Bs.nil w none, row_rd (hm.fact _ List.mem_cons_self), row_rd (hm.fact _ (List.mem_cons_of_mem _ List.mem_cons_self))⟩) trdD rfl ⟨rfl, rfl, trivial⟩
            exact tag_c w' b B y (turnT (n :: n2 :: r2) M) ⟨none, none, u1, u2, 0, 0, g1, g2⟩ hts hL hTs (h2.mem.take (js := [6, 0]) rfl)) ?_
          rintro v Fs ⟨A3, c3, y3, rfl, r1, r2, r3, rfl⟩
          intro β w' hs
          rw [turnOut_some (hT (fun q => by cases q.1) (fun q => by cases q.1))]
          exact (hs.keepB (List.nil_sublist _)).fin [0, 1] ⟨A3, c3, y3, rfl, r1, r2, r3, rfl⟩
end Go.Proofs.YthkjfepbmnabkaaGreatDoor.Sx

/- The symbolic box's example of BoxHandles: plainly. -/
namespace Go.Proofs.YthkjfepbmnabkaaGreatDoor.Sx
open Go

def tA : Bx.Term := hashT [97]
def tB : Bx.Term := hashT [98]
def tC : Bx.Term := turnT [1, 2] Bx.noughts
def B1 : Bx.Box := ⟨true, false, [tA]⟩
def B2 : Bx.Box := ⟨true, false, [tA, tB]⟩
def B3 : Bx.Box := ⟨true, false, [tA, tB, tC]⟩
theorem place_not {t : Bx.Term} : ∀ {L : List Bx.Term}, t ∉ L → Bx.place t L = none
  | [], _ => rfl
  | x :: r, h => by
    unfold Bx.place
    rw [if_neg (show ¬ x = t from fun q => h (by rw [q]; exact List.mem_cons_self)), place_not (fun q => h (List.mem_cons_of_mem _ q))]
    rfl
theorem opens_h {B : Bx.Box} {n : Nat} {t : Bx.Term} (hs : B.sym = true) (hn : n < 4294967296) (h0 : 1 ≤ n) (hl : n ≤ B.L.length) (ht : B.L[n - 1]? = some t) : B.opens (Bx.handle n) = if t.kind = 4 then some (t.list, t.mask) else some ([n], Bx.noughts) :=
  Bx.opens_in (Bx.handle_len n) hs (List.take_left' Bx.front_len) (by rw [show (Bx.handle n).drop 28 = Bx.be4 n from List.drop_left' Bx.front_len, Bx.num_be4 hn]) (by omega) ht
end Go.Proofs.YthkjfepbmnabkaaGreatDoor.Sx

/- The symbolic box's example of BoxHandles. -/
namespace Go.Proofs.YthkjfepbmnabkaaGreatDoor.Sx
open Go
attribute [local irreducible] Calls

theorem newX_c (w : World) (sym : Bool) : Con Tryz.prog n_box_New #[.bool sym] w [] fun v Fs => ∃ b y, v = .pointer (some ⟨b, 0, none⟩) ∧ y.ts = [] ∧ Fs = [bxF b ⟨sym, false, []⟩ y] := by
  refine con_of_sx (cx := cx_box_New w (Un [])) (good_box_New w (Un [])) b_box_New rfl rfl (β := Va.z) [.c (.v (.bool sym))] 0 [] [] rfl rfl (Sat.start rfl) ?_
  intro m
  intro β w' hs
  have h2 := (hs.ofBk.nilRow ty_box_Term 6).noMem (partsF []) (fun _ h => (by cases h)) (fun k hk => by obtain ⟨p, hp, _⟩ := hk; cases hp)
  exact (h2.sep [2, 1, 3, 0] rfl ⟨rfl, rfl, rfl, rfl, trivial⟩).fin [0] ⟨_, ⟨none, 0, m, []⟩, rfl, rfl, rfl⟩
end Go.Proofs.YthkjfepbmnabkaaGreatDoor.Sx
