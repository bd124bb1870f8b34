/- The document's step. -/
import Derived.Test.YthkjfepbmnabkaaDoorSha7
namespace Go.Proofs.YthkjfepbmnabkaaDoor.Sx
open Go Sha
attribute [local irreducible] Calls

theorem take4 (l : List UInt8) (k : Nat) (h : k + 4 ≤ l.length) : (l.drop k).take 4 = [l.getD k 0, l.getD (k + 1) 0, l.getD (k + 2) 0, l.getD (k + 3) 0] := by
  refine List.ext_getElem? fun j => ?_
  rw [List.getElem?_take]
  have g : ∀ j, j < 4 → (l.drop k)[j]? = some (l.getD (k + j) 0) := fun j hj => getD_drop l k j (by omega)
  match j with
  | 0 => simpa using g 0 (by omega)
  | 1 => simpa using g 1 (by omega)
  | 2 => simpa using g 2 (by omega)
  | 3 => simpa using g 3 (by omega)
  | n + 4 => simp; omega
theorem numB4 (a b c d : UInt8) : IntKind.u32.wrap (numB [a, b, c, d] : Int) = ((word a b c d).toNat : Int) := by
  have h1 := a.toNat_lt
  have h2 := b.toNat_lt
  have h3 := c.toNat_lt
  have h4 := d.toNat_lt
  have : numB [a, b, c, d] = a.toNat * 16777216 + b.toNat * 65536 + c.toNat * 256 + d.toNat := by
    simp only [numB, List.foldl_cons, List.foldl_nil]
    omega
  rw [this, wrap32_nat]
  rfl
theorem nxt_ac (a b c d : UInt32) : ((d + c) + b) + a = a + b + c + d := by ac_rfl

theorem odd_cell3 {g : Nat} {w : World} (h : (oddF g).p w) {i : Nat} (hi : i < 64) : w.cell? ((⟨g, 0, none⟩ : Addr).add (i * 1)) = some (u32 (K.getD i 0)) := odd_cell h hi
theorem rstep_c (w : World) (s : S8) (A : Option Addr) (l : List UInt8) (c : Nat) (hr : Bs w A l) (hk : (oddF 3).p w) (hc : l.length ≤ c) (hl : 64 ≤ l.length) (hm : c ≤ maxLen) :
    Pu Tryd.prog n_ostiaryref01_Step #[stV s, .slice A l.length c] w (stV (Sha.step s l)) := by
  have g := good_ostiaryref01_Step w (Un [])
  obtain ⟨ws, hws⟩ : ∃ ws, W l = ws := ⟨_, rfl⟩
  have hwl : ws.length = 64 := by rw [← hws]; exact W_len l
  have hst0 : Sha.step s l = s.add (rounds s ws 64) := by rw [Sha.step, hws]
  rw [hst0]
  have hs0 : Sat (cx_ostiaryref01_Step w (Un [])) Va.z 0 [] [oldF w] w := old_sat rfl
  have hs1 : Sat (cx_ostiaryref01_Step w (Un [])) Va.z 0 [] [bsF A l, oddF 3, oldF w] w := (hs0.sub 0 rfl rfl (oddF 3) rfl hk (rd_lt hk)).sub 1 rfl rfl (bsF A l) rfl hr (rd_lt hr)
  rw [maxLen_eq] at hm
  refine con_of_sx (cx := cx_ostiaryref01_Step w (Un [])) g b_ostiaryref01_Step rfl rfl (β := Va.z) [.agg (s.l.map sl32), .c (.v (.slice A l.length c))] 0 [] [bsF A l, oddF 3, oldF w] rfl rfl hs1 ?_
  have e0 : arr 64 [] = ti170.zero.map SL.v := by simp only [arr, List.nil_append, List.length_nil, List.map_replicate]; rfl
  refine loop_rule (ι := Nat) 3 (fun i => [(1, .c (.v (.slice A l.length c))), (2, .c (.p 0 0)), (4, .c (.p 1 0)), (5, .c (.p 2 0)), (6, .c (.v (.int .i64 i)))]) (fun i => [⟨2, 170, arr 64 (sched l i)⟩, ⟨1, 131, ti131.zero.map SL.v⟩, ⟨0, 131, s.l.map sl32⟩]) (fun _ => [bsF A l, oddF 3, oldF w])
    (fun i => i ≤ 64) (fun i => 64 - i) 0 (Nat.zero_le _) (Ent.mk' ⟨rfl, rfl, rfl, rfl, rfl, trivial⟩ rfl (fun β w' hs => by rw [show sched l 0 = [] from rfl, e0]; exact hs)) g ?_
  intro i hi
  refine BIf.dec (fun hlt => ?_) (fun hge => ?_)
  · have hlt : i < 64 := by omega
    have hsl : (sched l i).length = i := sched_len l i
    have ld : ∀ {k : Nat}, k < i → nth (arr 64 (sched l i)) (0 + k * 1) = some (sl32 ((sched l i).getD k 0)) := fun {k} hk => by
      rw [nth_eq, Nat.zero_add, Nat.mul_one]; exact arr_get (by omega)
    have fin : ∀ (x : UInt32), (if i < 16 then wordAt l i else nxt (sched l i) i) = x → putAll (arr 64 (sched l i)) (0 + i * 1) [sl32 x] = arr 64 (sched l (i + 1)) := fun x hx => by
      rw [putAll, putAll, putAt_eq, Nat.zero_add, Nat.mul_one]
      have := arr_set (n := 64) (ws := sched l i) (by omega) x
      rw [hsl] at this
      rw [this, sched, hx]
    have ble : Nat.ble (0 + i * 1 + 1) (arr 64 (sched l i)).length = true := by rw [arr_len (by omega), Nat.ble_eq]; omega
    refine BIf.dec (fun h16 => ?_) (fun h16 => ?_)
    · have h16 : i < 16 := by omega
      refine ⟨((4 * i : Nat) : Int), by rw [wrap_i64 (by omega) (by omega)]; omega, ((4 * i : Nat) : Int), by rw [wrap_i64 (by omega) (by omega)]; omega, ((4 * i + 4 : Nat) : Int), by rw [wrap_i64 (by omega) (by omega)]; omega, ?_⟩
      refine ⟨c, 4 * i + 4, 4 * i, 4, c - 4 * i, _, rfl, rfl, rfl, Nat.le_refl _, by omega, by omega, by omega, rfl, rfl, ?_⟩
      refine call_pu (fun β w' hs => pu_of (num_c w' (cutA A c (4 * i) 1) [l.getD (4 * i) 0, l.getD (4 * i + 1) 0, l.getD (4 * i + 2) 0, l.getD (4 * i + 3) 0] (c - 4 * i) ?_ (by show 4 ≤ lim; decide))) ?_
      · have h7 := Bs.cut (hs.get 0 rfl : Bs w' A l) (c := c) (m := c) (i := 4 * i) (j := 4 * i + 4) hc (.inl rfl) (by omega) (by omega) (Nat.le_refl _)
        rw [show 4 * i + 4 - 4 * i = 4 by omega, take4 l (4 * i) (by omega)] at h7
        exact h7
      refine ⟨_, numB4 _ _ _ _, i, rfl, by omega, ?_⟩
      conv => whnf
      generalize h1 : Nat.ble _ _ = b1
      obtain rfl : b1 = true := h1.symm.trans ble
      clear h1
      refine ⟨((i + 1 : Nat) : Int), by rw [wrap_i64 (by omega) (by omega)]; rfl, ?_⟩
      refine ⟨i + 1, by omega, by omega, Ent.mk' ⟨rfl, rfl, rfl, rfl, rfl, trivial⟩ rfl (fun β w' hs => ?_)⟩
      rw [← fin _ (if_pos h16)]
      exact hs
    · have h16 : ¬ i < 16 := by omega
      obtain ⟨xa, hxa⟩ : ∃ xa, (sched l i).getD (i - 15) 0 = xa := ⟨_, rfl⟩
      obtain ⟨xb, hxb⟩ : ∃ xb, (sched l i).getD (i - 2) 0 = xb := ⟨_, rfl⟩
      refine draw_rule g p_ostiaryref01_Step_7 (by kernel_rfl) _ _ Sub.refl ?_
      refine ⟨((i - 15 : Nat) : Int), by rw [wrap_i64 (by omega) (by omega)]; omega, i - 15, rfl, by omega, ?_⟩
      conv => whnf
      generalize hn : nth _ _ = o
      obtain rfl : o = some (sl32 xa) := hn.symm.trans (by rw [← hxa]; exact ld (by omega))
      clear hn
      refine ⟨((i - 15 : Nat) : Int), by rw [wrap_i64 (by omega) (by omega)]; omega, i - 15, rfl, by omega, ?_⟩
      conv => whnf
      generalize hn : nth _ _ = o
      obtain rfl : o = some (sl32 xa) := hn.symm.trans (by rw [← hxa]; exact ld (by omega))
      clear hn
      refine ⟨((i - 15 : Nat) : Int), by rw [wrap_i64 (by omega) (by omega)]; omega, i - 15, rfl, by omega, ?_⟩
      conv => whnf
      generalize hn : nth _ _ = o
      obtain rfl : o = some (sl32 xa) := hn.symm.trans (by rw [← hxa]; exact ld (by omega))
      clear hn
      refine ⟨by omega, _, shr32 xa 3 (by omega), ?_⟩
      refine call_pu (fun β w' hs => turn_c w' xa 7 (by omega) (by omega)) ?_
      refine ⟨Sub.refl, ?_⟩
      refine call_pu (fun β w' hs => turn_c w' xa 18 (by omega) (by omega)) ?_
      refine ⟨Sub.refl, _, xor32 _ _, _, xor32 _ _, ?_⟩
      refine draw_rule g p_ostiaryref01_Step_8 (by kernel_rfl) _ _ Sub.refl ?_
      refine ⟨((i - 2 : Nat) : Int), by rw [wrap_i64 (by omega) (by omega)]; omega, i - 2, rfl, by omega, ?_⟩
      conv => whnf
      generalize hn : nth _ _ = o
      obtain rfl : o = some (sl32 xb) := hn.symm.trans (by rw [← hxb]; exact ld (by omega))
      clear hn
      refine ⟨((i - 2 : Nat) : Int), by rw [wrap_i64 (by omega) (by omega)]; omega, i - 2, rfl, by omega, ?_⟩
      conv => whnf
      generalize hn : nth _ _ = o
      obtain rfl : o = some (sl32 xb) := hn.symm.trans (by rw [← hxb]; exact ld (by omega))
      clear hn
      refine ⟨((i - 2 : Nat) : Int), by rw [wrap_i64 (by omega) (by omega)]; omega, i - 2, rfl, by omega, ?_⟩
      conv => whnf
      generalize hn : nth _ _ = o
      obtain rfl : o = some (sl32 xb) := hn.symm.trans (by rw [← hxb]; exact ld (by omega))
      clear hn
      refine ⟨by omega, _, shr32 xb 10 (by omega), ?_⟩
      refine call_pu (fun β w' hs => turn_c w' xb 17 (by omega) (by omega)) ?_
      refine ⟨Sub.refl, ?_⟩
      refine call_pu (fun β w' hs => turn_c w' xb 19 (by omega) (by omega)) ?_
      refine ⟨Sub.refl, _, xor32 _ _, _, xor32 _ _, ?_⟩
      refine draw_rule g p_ostiaryref01_Step_9 (by kernel_rfl) _ _ Sub.refl ?_
      refine ⟨((i - 7 : Nat) : Int), by rw [wrap_i64 (by omega) (by omega)]; omega, i - 7, rfl, by omega, ?_⟩
      conv => whnf
      generalize hn : nth _ _ = o
      obtain rfl : o = some (sl32 ((sched l i).getD (i - 7) 0)) := hn.symm.trans (ld (by omega))
      clear hn
      refine ⟨_, add32 _ _, _, add32 _ _, ?_⟩
      refine ⟨((i - 16 : Nat) : Int), by rw [wrap_i64 (by omega) (by omega)]; omega, i - 16, rfl, by omega, ?_⟩
      conv => whnf
      generalize hn : nth _ _ = o
      obtain rfl : o = some (sl32 ((sched l i).getD (i - 16) 0)) := hn.symm.trans (ld (by omega))
      clear hn
      refine ⟨_, add32 _ _, i, rfl, by omega, ?_⟩
      conv => whnf
      generalize h1 : Nat.ble _ _ = b1
      obtain rfl : b1 = true := h1.symm.trans ble
      clear h1
      refine ⟨((i + 1 : Nat) : Int), by rw [wrap_i64 (by omega) (by omega)]; rfl, ?_⟩
      refine ⟨i + 1, by omega, by omega, Ent.mk' ⟨rfl, rfl, rfl, rfl, rfl, trivial⟩ rfl (fun β w' hs => ?_)⟩
      rw [← fin (((s1 xb + (sched l i).getD (i - 7) 0) + s0 xa) + (sched l i).getD (i - 16) 0) (by rw [if_neg h16, nxt, hxa, hxb, nxt_ac])]
      exact hs
  · have e2 : arr 64 (sched l i) = ws.map sl32 := by
      have hi64 : i = 64 := by omega
      rw [← hws, hi64]
      exact arr_full (sched_len l 64)
    clear hge hi
    rw [e2]
    clear e2
    have ldw : ∀ {k : Nat}, k < 64 → nth (ws.map sl32) (0 + k * 1) = some (sl32 (ws.getD k 0)) := fun {k} hk => by
      rw [nth_eq, Nat.zero_add, Nat.mul_one, List.getElem?_map, List.getElem?_eq_getElem (by omega)]
      simp [List.getD, List.getElem?_eq_getElem (show k < ws.length by omega)]
    refine loop_rule (ι := Nat) 4 (fun i => [(2, .c (.p 0 0)), (4, .c (.p 1 0)), (5, .c (.p 2 0)), (9, .c (.p 3 0)), (10, .c (.v (.int .i64 i)))]) (fun i => [⟨3, 131, (rounds s ws i).l.map sl32⟩, ⟨2, 170, ws.map sl32⟩, ⟨1, 131, ti131.zero.map SL.v⟩, ⟨0, 131, s.l.map sl32⟩]) (fun _ => [bsF A l, oddF 3, oldF w])
      (fun i => i ≤ 64) (fun i => 64 - i) 0 (Nat.zero_le _) (Ent.same ⟨rfl, rfl, rfl, rfl, rfl, trivial⟩ rfl) g ?_
    intro j hj
    obtain ⟨r, hr⟩ : ∃ r, rounds s ws j = r := ⟨_, rfl⟩
    rw [hr]
    obtain ⟨xa, xb, xc, xd, xe, xf, xg, xh⟩ := r
    refine BIf.dec (fun hlt => ?_) (fun hge => ?_)
    · have hlt : j < 64 := by omega
      refine ⟨4, rfl, by decide, ?_⟩
      refine draw_rule g p_ostiaryref01_Step_15 (by kernel_rfl) _ _ Sub.refl ?_
      refine ⟨7, rfl, by decide, 5, rfl, by decide, _, and32 _ _, _, not32 _, 6, rfl, by decide, _, and32 _ _, _, xor32 _ _, ?_⟩
      refine ⟨j, rfl, hlt, u32 (K.getD j 0), fun β w' hs => odd_cell3 (hs.get 1 rfl) hlt, j, rfl, hlt, ?_⟩
      conv => whnf
      generalize hn : nth _ _ = o
      obtain rfl : o = some (sl32 (ws.getD j 0)) := hn.symm.trans (ldw hlt)
      clear hn
      refine call_pu (fun β w' hs => turn_c w' xe 6 (by omega) (by omega)) ?_
      refine ⟨Sub.refl, ?_⟩
      refine call_pu (fun β w' hs => turn_c w' xe 11 (by omega) (by omega)) ?_
      refine ⟨Sub.refl, _, xor32 _ _, ?_⟩
      refine call_pu (fun β w' hs => turn_c w' xe 25 (by omega) (by omega)) ?_
      refine ⟨Sub.refl, _, xor32 _ _, _, add32 _ _, _, add32 _ _, _, add32 _ _, _, add32 _ _, ?_⟩
      refine ⟨0, rfl, by decide, ?_⟩
      refine draw_rule g p_ostiaryref01_Step_17 (by kernel_rfl) _ _ Sub.refl ?_
      refine ⟨1, rfl, by decide, _, and32 _ _, 2, rfl, by decide, _, and32 _ _, _, xor32 _ _, 1, rfl, by decide, 2, rfl, by decide, _, and32 _ _, _, xor32 _ _, ?_⟩
      refine call_pu (fun β w' hs => turn_c w' xa 2 (by omega) (by omega)) ?_
      refine ⟨Sub.refl, ?_⟩
      refine call_pu (fun β w' hs => turn_c w' xa 13 (by omega) (by omega)) ?_
      refine ⟨Sub.refl, _, xor32 _ _, ?_⟩
      refine call_pu (fun β w' hs => turn_c w' xa 22 (by omega) (by omega)) ?_
      refine ⟨Sub.refl, _, xor32 _ _, _, add32 _ _, ?_⟩
      refine ⟨_, add32 _ _, 0, rfl, by decide, 1, rfl, by decide, 2, rfl, by decide, 3, rfl, by decide, _, add32 _ _, 4, rfl, by decide, 5, rfl, by decide, 6, rfl, by decide, ?_⟩
      refine ⟨((j + 1 : Nat) : Int), by rw [wrap_i64 (by omega) (by omega)]; rfl, ?_⟩
      refine ⟨j + 1, by omega, by omega, Ent.mk' ⟨rfl, rfl, rfl, rfl, rfl, trivial⟩ rfl (fun β w' hs => ?_)⟩
      have e1 : (rounds s ws (j + 1)).l.map sl32 = (⟨(⟨xa, xb, xc, xd, xe, xf, xg, xh⟩ : S8).x (K.getD j 0) (ws.getD j 0) + ((⟨xa, xb, xc, xd, xe, xf, xg, xh⟩ : S8).y + (⟨xa, xb, xc, xd, xe, xf, xg, xh⟩ : S8).z), xa, xb, xc, xd + (⟨xa, xb, xc, xd, xe, xf, xg, xh⟩ : S8).x (K.getD j 0) (ws.getD j 0), xe, xf, xg⟩ : S8).l.map sl32 := by
        rw [rounds_succ, hr, S8.round, UInt32.add_assoc]
      rw [e1]
      exact hs
    · obtain ⟨t, ht⟩ : ∃ t, (⟨xa, xb, xc, xd, xe, xf, xg, xh⟩ : S8) = t := ⟨_, rfl⟩
      have hst : rounds s ws 64 = t := by
        have : j = 64 := by omega
        rw [← ht, ← hr, this]
      rw [hst, ht]
      clear hst ht hr hge hj
      refine loop_rule (ι := Nat) 4 (fun i => [(2, .c (.p 0 0)), (4, .c (.p 1 0)), (9, .c (.p 3 0)), (165, .c (.v (.int .i64 i)))]) (fun i => [⟨3, 131, t.l.map sl32⟩, ⟨2, 170, ws.map sl32⟩, ⟨1, 131, ti131.zero.map SL.v⟩, ⟨0, 131, mix s t i⟩]) (fun _ => [bsF A l, oddF 3, oldF w])
        (fun i => i ≤ 8) (fun i => 8 - i) 0 (Nat.zero_le _) (Ent.same ⟨rfl, rfl, rfl, rfl, trivial⟩ rfl) g ?_
      intro j hj
      refine BIf.dec (fun hlt => ?_) (fun hge => ?_)
      · have hlt : j < 8 := by omega
        refine draw_rule g p_ostiaryref01_Step_22 (by kernel_rfl) _ _ Sub.refl ?_
        refine ⟨j, rfl, hlt, ?_⟩
        conv => whnf
        generalize hn : nth _ _ = o
        obtain rfl : o = some (sl32 (s.l.getD j 0)) := hn.symm.trans (by
          show nth (mix s t j) (0 + j * 1) = _
          rw [Nat.zero_add, Nat.mul_one]
          exact mix_get s t j hlt)
        clear hn
        refine ⟨j, rfl, hlt, ?_⟩
        conv => whnf
        generalize hn : nth _ _ = o
        obtain rfl : o = some (sl32 (t.l.getD j 0)) := hn.symm.trans (by
          show nth (t.l.map sl32) (0 + j * 1) = _
          rw [Nat.zero_add, Nat.mul_one, nth_eq]
          exact l_get t j hlt)
        clear hn
        refine ⟨_, add32 _ _, j, rfl, hlt, ?_⟩
        conv => whnf
        generalize h1 : Nat.ble _ _ = b1
        obtain rfl : b1 = true := h1.symm.trans (by
          show Nat.ble (0 + j * 1 + 1) (mix s t j).length = true
          rw [mix_len s t j (by omega), Nat.ble_eq]; omega)
        clear h1
        refine ⟨((j + 1 : Nat) : Int), by rw [wrap_i64 (by omega) (by omega)]; rfl, ?_⟩
        refine ⟨j + 1, by omega, by omega, Ent.mk' ⟨rfl, rfl, rfl, rfl, trivial⟩ rfl (fun β w' hs => ?_)⟩
        have e3 : 0 + j * 1 = j := by omega
        rw [← mix_set s t j hlt]
        have hs2 : Sat (cx_ostiaryref01_Step w (Un [])) β 4 [⟨3, 131, t.l.map sl32⟩, ⟨2, 170, ws.map sl32⟩, ⟨1, 131, ti131.zero.map SL.v⟩, ⟨0, 131, putAll (mix s t j) (0 + j * 1) [sl32 (s.l.getD j 0 + t.l.getD j 0)]⟩] [bsF A l, oddF 3, oldF w] w' := hs
        rw [e3] at hs2
        exact hs2
      · obtain rfl : j = 8 := by omega
        intro β w' hs
        exact hs.fin [] ⟨rfl, rfl⟩
end Go.Proofs.YthkjfepbmnabkaaDoor.Sx
