/- A block's step. -/
import Derived.Test.YthkjfepbmnabkaaDoorSha2
namespace Go.Proofs.YthkjfepbmnabkaaDoor.Sx
open Go Sha
attribute [local irreducible] Calls

/-- The table of the rounds' words. -/
def oddF (g : Nat) : Fact := rdF 1 (some ⟨g, 0, none⟩) 64 (K.map u32)
/-- A state's block. -/
def stF (b ty : Nat) (s : S8) : Fact := bkF b ty (s.l.map u32)

theorem rounds_succ (s : S8) (w : List UInt32) (n : Nat) : rounds s w (n + 1) = (rounds s w n).round (K.getD n 0) (w.getD n 0) := rfl
theorem K_len : K.length = 64 := rfl
theorem odd_cell {g : Nat} {w : World} (h : (oddF g).p w) {i : Nat} (hi : i < 64) : w.cell? ((⟨g, 0, none⟩ : Addr).add (i * 1)) = some (u32 (K.getD i 0)) := by
  obtain ⟨_, h2⟩ := h
  obtain ⟨ad, q, hc⟩ := h2 (by omega)
  obtain rfl := Option.some.inj q
  rw [Nat.mul_one]
  refine hc i _ ?_
  rw [List.getElem?_map, List.getElem?_eq_getElem (by rw [K_len]; exact hi)]
  simp [List.getD, List.getElem?_eq_getElem (show i < K.length by rw [K_len]; exact hi)]

def mix (s t : S8) (i : Nat) : List SL := ((s.add t).l.take i ++ s.l.drop i).map sl32
theorem mix_len (s t : S8) : ∀ i, i < 9 → (mix s t i).length = 8
  | 0, _ => rfl | 1, _ => rfl | 2, _ => rfl | 3, _ => rfl | 4, _ => rfl | 5, _ => rfl | 6, _ => rfl | 7, _ => rfl | 8, _ => rfl
  | n + 9, h => by omega
theorem mix_get (s t : S8) : ∀ i, i < 8 → nth (mix s t i) i = some (sl32 (s.l.getD i 0))
  | 0, _ => rfl | 1, _ => rfl | 2, _ => rfl | 3, _ => rfl | 4, _ => rfl | 5, _ => rfl | 6, _ => rfl | 7, _ => rfl
  | n + 8, h => by omega
theorem mix_set (s t : S8) : ∀ i, i < 8 → putAll (mix s t i) i [sl32 (s.l.getD i 0 + t.l.getD i 0)] = mix s t (i + 1)
  | 0, _ => rfl | 1, _ => rfl | 2, _ => rfl | 3, _ => rfl | 4, _ => rfl | 5, _ => rfl | 6, _ => rfl | 7, _ => rfl
  | n + 8, h => by omega
theorem l_get (t : S8) : ∀ i, i < 8 → (t.l.map sl32)[i]? = some (sl32 (t.l.getD i 0))
  | 0, _ => rfl | 1, _ => rfl | 2, _ => rfl | 3, _ => rfl | 4, _ => rfl | 5, _ => rfl | 6, _ => rfl | 7, _ => rfl
  | n + 8, h => by omega
theorem step_c (w : World) (b ty : Nat) (s : S8) (A : Option Addr) (l : List UInt8) (c : Nat) (hm : Mem w [stF b ty s, bsF A l, oddF 1]) (hc : l.length ≤ c) (hl : 64 ≤ l.length) (hcm : c ≤ maxLen) :
    Con Tryd.prog n_sha_state_step #[.pointer (some ⟨b, 0, none⟩), .slice A l.length c] w [stF b ty s] fun v Fs => v = .tuple #[] ∧ Fs = [stF b ty (Sha.step s l)] := by
  obtain ⟨ws, hws⟩ : ∃ ws, W l = ws := ⟨_, rfl⟩
  have hwl : ws.length = 64 := by rw [← hws]; exact W_len l
  have g := good_sha_state_step w (Un [stF b ty s]) (bs := [b])
  have hs0 : Sat (cx_sha_state_step w (Un [stF b ty s]) [b]) (Va.of fun _ => b) 1 [] [stF b ty s, bsF A l, oddF 1] w :=
    hm.sat rfl (ownIn (Gs := [stF b ty s]) (Rs := [bsF A l, oddF 1]) (fun g hg => by
      rcases List.mem_cons.1 hg with rfl | hg
      · rfl
      · obtain rfl := List.mem_singleton.1 hg; rfl)) ⟨Nat.le_refl _, fun i hi => by
        have hi1 : i < 1 := hi
        have hi0 : i = 0 := by omega
        rw [hi0]; rfl⟩
  have hs1 := hs0.toBk 0 rfl 0 Nat.zero_lt_one rfl
  refine con_of_sx (cx := cx_sha_state_step w (Un [stF b ty s]) [b]) g b_sha_state_step rfl rfl (β := Va.of fun _ => b) [.c (.p 0 0), .c (.v (.slice A l.length c))] 1 [⟨0, ty, s.l.map sl32⟩] [bsF A l, oddF 1] rfl rfl (by rw [List.map_map] at hs1; exact hs1) ?_
  refine call_pu (fun β w' hs => spread_c w' A l c (hs.get 0 rfl) hc hl hcm) ?_
  rw [hws]
  have ea : ofValue (.agg (ws.map u32).toArray) = .agg (ws.map sl32) := by simp only [ofValue, List.map_map]; rfl
  rw [ea]
  conv => whnf
  generalize h1 : Nat.beq _ _ = b1
  generalize h2 : allOne _ = b2
  obtain rfl : b1 = true := h1.symm.trans (by rw [List.length_map, hwl]; rfl)
  obtain rfl : b2 = true := h2.symm.trans (arr_one ws)
  clear h1 h2
  conv => whnf
  generalize h1 : Nat.ble _ _ = b1
  obtain rfl : b1 = true := h1.symm.trans (by rw [List.length_map, hwl]; rfl)
  clear h1
  refine draw_rule g p_sha_state_step_1 (by kernel_rfl) _ _ Sub.refl ?_
  refine ⟨0, rfl, by decide, ?_⟩
  refine ⟨1, rfl, by decide, ?_⟩
  refine ⟨2, rfl, by decide, ?_⟩
  refine ⟨3, rfl, by decide, ?_⟩
  refine ⟨4, rfl, by decide, ?_⟩
  refine ⟨5, rfl, by decide, ?_⟩
  refine ⟨6, rfl, by decide, ?_⟩
  refine ⟨7, rfl, by decide, ?_⟩
  have hp : putAll (ti170.zero.map SL.v) 0 (ws.map sl32) = ws.map sl32 := putAll_full (by rw [List.length_map, hwl]; rfl)
  refine loop_rule (ι := Nat) 2 (fun i => [(0, .c (.p 0 0)), (4, .c (.p 1 0)), (5, .c (sl32 (rounds s ws i).a)), (6, .c (sl32 (rounds s ws i).b)), (7, .c (sl32 (rounds s ws i).c)), (8, .c (sl32 (rounds s ws i).d)), (9, .c (sl32 (rounds s ws i).e)), (10, .c (sl32 (rounds s ws i).f)), (11, .c (sl32 (rounds s ws i).g)), (12, .c (sl32 (rounds s ws i).h)), (55, .c (.v (.int .i64 i)))])
    (fun _ => [⟨1, 170, ws.map sl32⟩, ⟨0, ty, s.l.map sl32⟩]) (fun _ => [bsF A l, oddF 1])
    (fun i => i ≤ 64) (fun i => 64 - i) 0 (Nat.zero_le _) (Ent.mk' ⟨rfl, rfl, rfl, rfl, rfl, rfl, rfl, rfl, rfl, rfl, rfl, trivial⟩ rfl (fun β w' hs => by rw [← hp]; exact hs)) g ?_
  intro i hi
  obtain ⟨r, hr⟩ : ∃ r, rounds s ws i = r := ⟨_, rfl⟩
  rw [hr]
  obtain ⟨xa, xb, xc, xd, xe, xf, xg, xh⟩ := r
  refine BIf.dec (fun hlt => ?_) (fun hge => ?_)
  · have hlt : i < 64 := by omega
    refine call_pu (fun β w' hs => rotl_c w' xe 6 (by omega) (by omega)) ?_
    refine call_pu (fun β w' hs => rotl_c w' xe 11 (by omega) (by omega)) ?_
    refine ⟨_, xor32 _ _, ?_⟩
    refine call_pu (fun β w' hs => rotl_c w' xe 25 (by omega) (by omega)) ?_
    refine ⟨_, xor32 _ _, ?_⟩
    refine ⟨_, and32 _ _, _, not32 _, _, and32 _ _, _, xor32 _ _, ?_⟩
    refine draw_rule g p_sha_state_step_7 (by kernel_rfl) _ _ Sub.refl ?_
    refine ⟨_, add32 _ _, _, add32 _ _, i, rfl, hlt, u32 (K.getD i 0), fun β w' hs => odd_cell (hs.get 1 rfl) hlt, _, add32 _ _, i, rfl, hlt, ?_⟩
    conv => whnf
    generalize hn : nth _ _ = o
    obtain rfl : o = some (sl32 (ws.getD i 0)) := hn.symm.trans (by
      show nth (ws.map sl32) (0 + i * 1) = _
      rw [nth_eq, Nat.zero_add, Nat.mul_one, List.getElem?_map, List.getElem?_eq_getElem (by omega)]
      simp [List.getD, List.getElem?_eq_getElem (show i < ws.length by omega)])
    clear hn
    refine ⟨_, add32 _ _, ?_⟩
    refine call_pu (fun β w' hs => rotl_c w' xa 2 (by omega) (by omega)) ?_
    refine call_pu (fun β w' hs => rotl_c w' xa 13 (by omega) (by omega)) ?_
    refine ⟨_, xor32 _ _, ?_⟩
    refine call_pu (fun β w' hs => rotl_c w' xa 22 (by omega) (by omega)) ?_
    refine ⟨_, xor32 _ _, ?_⟩
    refine ⟨_, and32 _ _, _, and32 _ _, _, xor32 _ _, _, and32 _ _, _, xor32 _ _, ?_⟩
    refine ⟨_, add32 _ _, _, add32 _ _, _, add32 _ _, ?_⟩
    refine ⟨((i + 1 : Nat) : Int), by rw [wrap_i64 (by omega) (by omega)]; rfl, ?_⟩
    refine ⟨i + 1, by omega, by omega, Ent.same ?_ rfl⟩
    rw [rounds_succ, hr]
    exact ⟨rfl, rfl, rfl, rfl, rfl, rfl, rfl, rfl, rfl, rfl, rfl, trivial⟩
  · obtain ⟨t, ht⟩ : ∃ t, (⟨xa, xb, xc, xd, xe, xf, xg, xh⟩ : S8) = t := ⟨_, rfl⟩
    have hst : Sha.step s l = s.add t := by
      have : i = 64 := by omega
      rw [Sha.step, hws, ← ht, ← hr, this]
    rw [hst]
    refine loop_rule (ι := Nat) 2 (fun i => [(0, .c (.p 0 0)), (129, .agg [sl32 xa, sl32 xb, sl32 xc, sl32 xd, sl32 xe, sl32 xf, sl32 xg, sl32 xh]), (130, .c (.v (.int .i64 i)))])
      (fun i => [⟨1, 170, ws.map sl32⟩, ⟨0, ty, mix s t i⟩]) (fun _ => [bsF A l, oddF 1])
      (fun i => i ≤ 8) (fun i => 8 - i) 0 (Nat.zero_le _) (Ent.same ⟨rfl, rfl, rfl, trivial⟩ rfl) g ?_
    intro j hj
    refine BIf.dec (fun hlt => ?_) (fun hge => ?_)
    · have hlt : j < 8 := by omega
      refine ⟨j, sl32 (t.l.getD j 0), rfl, hlt, by rw [← ht]; show ((⟨xa, xb, xc, xd, xe, xf, xg, xh⟩ : S8).l.map sl32)[j * 1]? = _; rw [Nat.mul_one]; exact l_get _ j hlt, ?_⟩
      refine draw_rule g p_sha_state_step_15 (by kernel_rfl) [] [bsF A l, oddF 1] (Sub.of (List.nil_sublist _) (List.Sublist.refl _)) ?_
      refine ⟨j, rfl, hlt, ?_⟩
      conv => whnf
      generalize hn : nth _ _ = o
      obtain rfl : o = some (sl32 (s.l.getD j 0)) := hn.symm.trans (by
        show nth (mix s t j) (0 + j * 1) = _
        rw [Nat.zero_add, Nat.mul_one]
        exact mix_get s t j hlt)
      clear hn
      refine ⟨Sub.of (List.nil_sublist _) (List.Sublist.refl _), _, add32 _ _, j, rfl, hlt, ?_⟩
      conv => whnf
      generalize h1 : Nat.ble _ _ = b1
      obtain rfl : b1 = true := h1.symm.trans (by
        show Nat.ble (0 + j * 1 + 1) (mix s t j).length = true
        rw [mix_len s t j (by omega), Nat.ble_eq]; omega)
      clear h1
      refine ⟨Sub.of (List.nil_sublist _) (List.Sublist.refl _), ?_⟩
      refine ⟨((j + 1 : Nat) : Int), by rw [wrap_i64 (by omega) (by omega)]; rfl, ?_⟩
      refine ⟨j + 1, by omega, by omega, Ent.mk' ⟨rfl, rfl, rfl, trivial⟩ rfl (fun β w' hs => ?_)⟩
      have e1 := mix_set s t j hlt
      rw [← e1]
      have e3 : 0 + j * 1 = j := by omega
      have hs2 : Sat (cx_sha_state_step w (Un [stF b ty s]) [b]) β 2 [⟨1, 170, ws.map sl32⟩, ⟨0, ty, putAll (mix s t j) (0 + j * 1) [sl32 (s.l.getD j 0 + t.l.getD j 0)]⟩] [bsF A l, oddF 1] w' := hs
      rw [e3] at hs2
      exact hs2
    · obtain rfl : j = 8 := by omega
      intro β w' hs
      have h1 := hs.weaken (List.sublist_cons_self _ _) (List.Sublist.refl _)
      have h2 := h1.ofBk
      have hb : β 0 = b := h2.fix.2 0 (Nat.zero_lt_one)
      refine h2.fin [0] ⟨rfl, ?_⟩
      show [bkF (β 0) ty ((mix s t 8).map (SL.val β))] = [stF b ty (s.add t)]
      rw [hb]
      rfl
end Go.Proofs.YthkjfepbmnabkaaDoor.Sx
