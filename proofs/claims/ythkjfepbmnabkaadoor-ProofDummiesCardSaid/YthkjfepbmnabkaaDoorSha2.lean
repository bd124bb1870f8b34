/- A block's words. -/
import Derived.Test.YthkjfepbmnabkaaDoorSha1
import Derived.Test.YthkjfepbmnabkaaDoorSxArr
namespace Go.Proofs.YthkjfepbmnabkaaDoor.Sx
open Go Sha
attribute [local irreducible] Calls

def sl32 (x : UInt32) : SL := .v (u32 x)
def arr (n : Nat) (ws : List UInt32) : List SL := (ws ++ List.replicate (n - ws.length) 0).map sl32
theorem arr_len {n : Nat} {ws : List UInt32} (h : ws.length ≤ n) : (arr n ws).length = n := by simp [arr]; omega
theorem arr_get {n : Nat} {ws : List UInt32} {i : Nat} (h : i < ws.length) : (arr n ws)[i]? = some (sl32 (ws.getD i 0)) := by
  simp only [arr, List.getElem?_map]
  rw [List.getElem?_append_left h, List.getElem?_eq_getElem h]
  simp [List.getD, List.getElem?_eq_getElem h]
theorem arr_set {n : Nat} {ws : List UInt32} (h : ws.length < n) (x : UInt32) : (arr n ws).set ws.length (sl32 x) = arr n (ws ++ [x]) := by
  obtain ⟨k, rfl⟩ : ∃ k, n = ws.length + (k + 1) := ⟨n - ws.length - 1, by omega⟩
  simp only [arr, List.length_append, List.length_cons, List.length_nil]
  rw [show ws.length + (k + 1) - ws.length = k + 1 by omega, show ws.length + (k + 1) - (ws.length + (0 + 1)) = k by omega, List.replicate_succ]
  simp
theorem arr_full {n : Nat} {ws : List UInt32} (h : ws.length = n) : arr n ws = ws.map sl32 := by simp [arr, h]
theorem arr_one (ws : List UInt32) : allOne (ws.map sl32) = true := allOne_of fun x hx => by obtain ⟨y, _, rfl⟩ := List.mem_map.1 hx; rfl
theorem arr_val (β : Va) (ws : List UInt32) : (ws.map sl32).map (SL.val β) = ws.map u32 := by rw [List.map_map]; rfl
theorem getD_drop (l : List UInt8) (i j : Nat) (h : i + j < l.length) : (l.drop i)[j]? = some (l.getD (i + j) 0) := by
  rw [List.getElem?_drop, List.getElem?_eq_getElem h]
  simp [List.getD, List.getElem?_eq_getElem h]

theorem spread_c (w : World) (A : Option Addr) (l : List UInt8) (c : Nat) (hr : Bs w A l) (hc : l.length ≤ c) (hl : 64 ≤ l.length) (hm : c ≤ maxLen) :
    Pu Tryd.prog n_sha_spread #[.slice A l.length c] w (.agg ((W l).map u32).toArray) := by
  obtain ⟨ws, hws⟩ : ∃ ws, W l = ws := ⟨_, rfl⟩
  have hwl : ws.length = 64 := by rw [← hws]; exact W_len l
  rw [hws]
  have g := good_sha_spread w None_
  refine pu_of (calls_of_sx (cx := cx_sha_spread w None_) g b_sha_spread rfl rfl (β := Va.z) [.c (.v (.slice A l.length c))] 0 [] [bsF A l] rfl rfl ((Sat.start rfl).rd (fun _ h => by cases h) hr) ?_)
  have e0 : arr 64 [] = ti170.zero.map SL.v := by simp only [arr, List.nil_append, List.length_nil, List.map_replicate]; rfl
  refine loop_rule (ι := Nat) 2 (fun i => [(0, .c (.v (.slice A l.length c))), (2, .c (.p 0 0)), (3, .c (.p 1 0)), (10, .c (.v (.int .i64 i)))]) (fun i => [⟨1, 170, arr 64 (sched l i)⟩, ⟨0, 170, arr 64 []⟩]) (fun _ => [bsF A l])
    (fun i => i ≤ 16) (fun i => 16 - i) 0 (Nat.zero_le _) (Ent.mk' ⟨rfl, rfl, rfl, rfl, trivial⟩ rfl (fun β w' hs => by rw [show sched l 0 = [] from rfl, e0]; exact hs)) g ?_
  intro i hi
  refine BIf.dec (fun hlt => ?_) (fun hge => ?_)
  · have hlt : i < 16 := by omega
    rw [maxLen_eq] at hm
    refine ⟨((4 * i : Nat) : Int), by rw [wrap_i64 (by omega) (by omega)]; omega, ?_⟩
    refine ⟨c, l.length, 4 * i, (l.drop (4 * i)).length, c - 4 * i, _, rfl, rfl, rfl, Nat.le_refl _, hc, by omega, by rw [List.length_drop], rfl, rfl, ?_⟩
    refine call_pu (fun β w' hs => word_c w' _ (l.drop (4 * i)) _ (Bs.cutB (hs.get 0 rfl : Bs w' A l) (j := l.length) hc (by omega) (Nat.le_refl _) (by rw [List.take_of_length_le (by simp)])) _ _ _ _
      (getD_drop l (4 * i) 0 (by omega)) (getD_drop l (4 * i) 1 (by omega)) (getD_drop l (4 * i) 2 (by omega)) (getD_drop l (4 * i) 3 (by omega))) ?_
    refine ⟨i, rfl, by omega, ?_⟩
    have hsl : (sched l i).length = i := sched_len l i
    refine m_true (b := Nat.ble (0 + i * 1 + 1) (arr 64 (sched l i)).length) (by rw [arr_len (by omega), Nat.ble_eq]; omega) ?_
    refine ⟨((i + 1 : Nat) : Int), by rw [wrap_i64 (by omega) (by omega)]; rfl, ?_⟩
    refine ⟨i + 1, by omega, by omega, Ent.mk' ⟨rfl, rfl, rfl, rfl, trivial⟩ rfl (fun β w' hs => ?_)⟩
    have e1 : putAll (arr 64 (sched l i)) (0 + i * 1) [sl32 (wordAt l i)] = arr 64 (sched l (i + 1)) := by
      rw [putAll, putAll, putAt_eq, Nat.zero_add, Nat.mul_one]
      have := arr_set (n := 64) (ws := sched l i) (by omega) (wordAt l i)
      rw [hsl] at this
      rw [this, sched, if_pos hlt]
    rw [← e1]
    exact hs
  · obtain rfl : i = 16 := by omega
    rw [maxLen_eq] at hm
    refine loop_rule (ι := Nat) 2 (fun i => [(0, .c (.v (.slice A l.length c))), (2, .c (.p 0 0)), (3, .c (.p 1 0)), (5, .c (.v (.int .i64 i)))]) (fun i => [⟨1, 170, arr 64 (sched l i)⟩, ⟨0, 170, arr 64 []⟩]) (fun _ => [bsF A l])
      (fun i => 16 ≤ i ∧ i ≤ 64) (fun i => 64 - i) 16 ⟨by omega, by omega⟩ (Ent.same ⟨rfl, rfl, rfl, rfl, trivial⟩ rfl) g ?_
    rintro i ⟨hi1, hi2⟩
    refine BIf.dec (fun hlt => ?_) (fun hge => ?_)
    · have hlt : i < 64 := by omega
      have hsl : (sched l i).length = i := sched_len l i
      have ld : ∀ {k : Nat}, k < i → nth (arr 64 (sched l i)) (0 + k * 1) = some (sl32 ((sched l i).getD k 0)) := fun {k} hk => by
        rw [nth_eq, Nat.zero_add, Nat.mul_one]; exact arr_get (by omega)
      refine draw_rule g p_sha_spread_10 (by kernel_rfl) _ _ Sub.refl ?_
      refine ⟨((i - 15 : Nat) : Int), by rw [wrap_i64 (by omega) (by omega)]; omega, i - 15, rfl, by omega, ?_⟩
      conv => whnf
      generalize hn : nth _ _ = o
      obtain rfl : o = some (sl32 ((sched l i).getD (i - 15) 0)) := hn.symm.trans (ld (by omega))
      clear hn
      refine ⟨((i - 2 : Nat) : Int), by rw [wrap_i64 (by omega) (by omega)]; omega, i - 2, rfl, by omega, ?_⟩
      conv => whnf
      generalize hn : nth _ _ = o
      obtain rfl : o = some (sl32 ((sched l i).getD (i - 2) 0)) := hn.symm.trans (ld (by omega))
      clear hn
      obtain ⟨xa, hxa⟩ : ∃ xa, (sched l i).getD (i - 15) 0 = xa := ⟨_, rfl⟩
      obtain ⟨xb, hxb⟩ : ∃ xb, (sched l i).getD (i - 2) 0 = xb := ⟨_, rfl⟩
      rw [hxa, hxb]
      refine call_pu (fun β w' hs => rotl_c w' xa 7 (by omega) (by omega)) ?_
      refine call_pu (fun β w' hs => rotl_c w' xa 18 (by omega) (by omega)) ?_
      refine ⟨_, xor32 _ _, by omega, _, shr32 xa 3 (by omega), _, xor32 _ _, ?_⟩
      refine call_pu (fun β w' hs => rotl_c w' xb 17 (by omega) (by omega)) ?_
      refine call_pu (fun β w' hs => rotl_c w' xb 19 (by omega) (by omega)) ?_
      refine ⟨_, xor32 _ _, by omega, _, shr32 xb 10 (by omega), _, xor32 _ _, ?_⟩
      refine draw_rule g p_sha_spread_13 (by kernel_rfl) _ _ Sub.refl ?_
      refine ⟨((i - 16 : Nat) : Int), by rw [wrap_i64 (by omega) (by omega)]; omega, i - 16, rfl, by omega, ?_⟩
      conv => whnf
      generalize hn : nth _ _ = o
      obtain rfl : o = some (sl32 ((sched l i).getD (i - 16) 0)) := hn.symm.trans (ld (by omega))
      clear hn
      refine ⟨_, add32 _ _, ?_⟩
      refine ⟨((i - 7 : Nat) : Int), by rw [wrap_i64 (by omega) (by omega)]; omega, i - 7, rfl, by omega, ?_⟩
      conv => whnf
      generalize hn : nth _ _ = o
      obtain rfl : o = some (sl32 ((sched l i).getD (i - 7) 0)) := hn.symm.trans (ld (by omega))
      clear hn
      refine ⟨_, add32 _ _, _, add32 _ _, i, rfl, by omega, ?_⟩
      refine m_true (b := Nat.ble (0 + i * 1 + 1) (arr 64 (sched l i)).length) (by rw [arr_len (by omega), Nat.ble_eq]; omega) ?_
      refine ⟨((i + 1 : Nat) : Int), by rw [wrap_i64 (by omega) (by omega)]; rfl, ?_⟩
      refine ⟨i + 1, ⟨by omega, by omega⟩, by omega, Ent.mk' ⟨rfl, rfl, rfl, rfl, trivial⟩ rfl (fun β w' hs => ?_)⟩
      have e1 : putAll (arr 64 (sched l i)) (0 + i * 1) [sl32 ((sched l i).getD (i - 16) 0 + s0 xa + (sched l i).getD (i - 7) 0 + s1 xb)] = arr 64 (sched l (i + 1)) := by
        rw [putAll, putAll, putAt_eq, Nat.zero_add, Nat.mul_one]
        have := arr_set (n := 64) (ws := sched l i) (by omega) ((sched l i).getD (i - 16) 0 + s0 xa + (sched l i).getD (i - 7) 0 + s1 xb)
        rw [hsl] at this
        rw [this, sched, if_neg (by omega), nxt, hxa, hxb]
      rw [← e1]
      exact hs
    · have hi64 : i = 64 := by omega
      have e2 : arr 64 (sched l i) = ws.map sl32 := by
        rw [← hws, hi64]
        exact arr_full (sched_len l 64)
      clear hi64 hi1 hi2 hge
      rw [e2]
      conv => whnf
      generalize hn : takeAt _ _ _ = o
      obtain rfl : o = some (ws.map sl32) := hn.symm.trans (takeAt_all (by rw [List.length_map, hwl]; rfl))
      clear hn
      conv => whnf
      generalize h1 : Nat.beq _ _ = b1
      generalize h2 : allOne _ = b2
      obtain rfl : b1 = true := h1.symm.trans (by rw [List.length_map, hwl]; rfl)
      obtain rfl : b2 = true := h2.symm.trans (arr_one ws)
      clear h1 h2
      conv => whnf
      generalize h1 : Nat.ble _ _ = b1
      obtain rfl : b1 = true := h1.symm.trans (by rw [List.length_map, hwl]; rfl)
      clear h1
      conv => whnf
      generalize hn : resOf _ _ _ _ = o
      obtain rfl : o = some [.agg (ws.map sl32)] := hn.symm.trans (by
        have hp : putAll (arr 64 []) 0 (ws.map sl32) = ws.map sl32 := putAll_full (by rw [List.length_map, hwl]; rfl)
        show (match takeAt (putAll (arr 64 []) 0 (ws.map sl32)) 0 64 with | some xs => some [SV.agg xs] | none => none) = _
        rw [hp, takeAt_all (by rw [List.length_map, hwl])])
      clear hn
      intro β w' hs
      refine ⟨?_, hs.chg⟩
      show Value.agg ((ws.map sl32).map (SL.val β)).toArray = _
      rw [arr_val]
end Go.Proofs.YthkjfepbmnabkaaDoor.Sx
